/- What the printed pack.Put, frame.Close and the examples of layers 1 to 3 tell, as plain lists of bytes. No condition. -/
import Derived.Test.YtlkfcamogfjngaaCrc
namespace Go.Proofs.Ytlkfcamogfjngaa.Fr
open Go.RowKit Go.Proofs.Ytlkfcamogfjngaa.PAll Go.Proofs.YtlkfcamogfjngaaW.PrintWords Go.Proofs.YtlkfcamogfjngaaW.PrintLast
open Go.Proofs.Ytlkfcamogfjngaa

/-- A text of bytes. -/
def tx (l : List UInt8) : ByteArray := ⟨l.toArray⟩
theorem tx_list (l : List UInt8) : (tx l).data.toList = l := rfl
theorem tx_size (l : List UInt8) : (tx l).size = l.length := by
  show l.toArray.size = l.length
  exact List.size_toArray
theorem tx_of (s : ByteArray) : tx s.data.toList = s := Crc.eq_list rfl
theorem tx_app (l m : List UInt8) : tx l ++ tx m = tx (l ++ m) := Crc.eq_list (by rw [Crc.app_list]; rfl)

def be1 (v : Nat) : List UInt8 := [UInt8.ofNat (v % 256)]
def be2 (v : Nat) : List UInt8 := [UInt8.ofNat (v / 256 % 256), UInt8.ofNat (v % 256)]
def be4 (v : Nat) : List UInt8 := [UInt8.ofNat (v / 16777216 % 256), UInt8.ofNat (v / 65536 % 256), UInt8.ofNat (v / 256 % 256), UInt8.ofNat (v % 256)]

theorem sh (v : Nat) (j : Nat) (hj : j ≤ 64) : shr .u64 (v : Int) (j : Int) % 256 = ((v / 2 ^ j % 256 : Nat) : Int) := by
  unfold shr
  rw [show IntKind.bits .u64 = 64 from rfl, Int.toNat_natCast, Nat.min_eq_left hj]
  simp
theorem w64 (n : Int) (h : -1000 ≤ n ∧ n ≤ 1000) : wrap64 n = n := by unfold wrap64; omega
def fill (n v : Nat) : Nat → Nat → List Int → List Int
  | 0, _, xs => xs
  | d + 1, i, xs => fill n v d (i + 1) (xs.set (n - 1 - i) ((v / 2 ^ (8 * i) % 256 : Nat) : Int))
theorem put_loop (n v : Nat) (hn : n ≤ 8) (d : Nat) : ∀ (k i : Nat) (xs : List Int), i + d = n → xs.length = n →
    pack_Put.l0 (k + d + 1) (n : Int) (v : Int) xs (n : Int) (i : Int) = some (strOfNums (fill n v d i xs)) := by
  induction d with
  | zero =>
    intro k i xs hi hx
    rw [pack_Put.l0, if_neg (by omega)]
    rfl
  | succ d ih =>
    intro k i xs hi hx
    have e1 : wrap64 (8 * (i : Int)) = ((8 * i : Nat) : Int) := by rw [w64 _ (by omega)]; omega
    have e2 : wrap64 (wrap64 ((n : Int) - 1) - (i : Int)) = ((n - 1 - i : Nat) : Int) := by rw [w64 ((n : Int) - 1) (by omega), w64 _ (by omega)]; omega
    have e3 : wrap64 ((i : Int) + 1) = ((i + 1 : Nat) : Int) := by rw [w64 _ (by omega)]; omega
    rw [show k + (d + 1) + 1 = (k + d + 1) + 1 from by omega, pack_Put.l0, e1, e2, e3, if_pos (by omega), if_pos (by omega), if_pos (by omega), if_pos (by omega), sh v (8 * i) (by omega),
      ih k (i + 1) _ (by omega) (by rw [List.length_set]; exact hx)]
    rfl
theorem put_tells (n v k : Nat) (hn : n = 1 ∨ n = 2 ∨ n = 4 ∨ n = 8) (hk : 10 ≤ k) : pack_Put.f k (n : Int) (v : Int) = some (strOfNums (fill n v n 0 (List.replicate n 0))) := by
  obtain ⟨m, rfl⟩ : ∃ m, k = m + n + 1 := ⟨k - n - 1, by omega⟩
  have hz : pack_size.f (n : Int) = some true := by
    unfold pack_size.f
    rcases hn with rfl | rfl | rfl | rfl <;> rfl
  unfold pack_Put.f
  rw [hz]
  simp only [Option.bind_some]
  rw [if_pos trivial, if_pos (by omega), if_pos (by omega), Int.toNat_natCast]
  exact put_loop n v (by omega) n m 0 _ (by omega) (by rw [List.length_replicate])
theorem put1 (k : Nat) (v : Nat) (hk : 10 ≤ k) : pack_Put.f k 1 (v : Int) = some (tx (be1 v)) := by
  have h := put_tells 1 v k (by omega) hk
  rw [show ((1 : Nat) : Int) = 1 from rfl] at h
  rw [h]
  simp only [fill, List.replicate, List.set, Nat.mul_zero, Nat.pow_zero, Nat.div_one, Nat.sub_self]
  rfl
theorem put2 (k : Nat) (v : Nat) (hk : 10 ≤ k) : pack_Put.f k 2 (v : Int) = some (tx (be2 v)) := by
  have h := put_tells 2 v k (by omega) hk
  rw [show ((2 : Nat) : Int) = 2 from rfl] at h
  rw [h]
  simp only [fill, List.replicate, List.set, Nat.mul_zero, Nat.pow_zero, Nat.div_one, Nat.sub_self]
  rfl
theorem put4 (k : Nat) (v : Nat) (hk : 10 ≤ k) : pack_Put.f k 4 (v : Int) = some (tx (be4 v)) := by
  have h := put_tells 4 v k (by omega) hk
  rw [show ((4 : Nat) : Int) = 4 from rfl] at h
  rw [h]
  simp only [fill, List.replicate, List.set, Nat.mul_zero, Nat.pow_zero, Nat.div_one, Nat.sub_self]
  rfl

theorem u64_nat (n : Nat) (h : n < 18446744073709551616) : IntKind.u64.wrap (n : Int) = (n : Int) := IntWalk.u64_in _ (by omega)

/-- What stands behind the magic, ahead of the sum. -/
def bodyOf (ver : Nat) (p : List UInt8) : List UInt8 := be1 ver ++ be4 p.length ++ p
/-- A frame. -/
def frameOf (ver : Nat) (p : List UInt8) : List UInt8 := [80, 79, 68, 67] ++ bodyOf ver p ++ be4 (Crc.sum (bodyOf ver p)).toNat
theorem bodyOf_length (ver : Nat) (p : List UInt8) : (bodyOf ver p).length = p.length + 5 := by
  simp [bodyOf, be1, be4]
theorem frameOf_length (ver : Nat) (p : List UInt8) : (frameOf ver p).length = p.length + 13 := by
  simp [frameOf, bodyOf_length, be4]

theorem sum_tells (k : Nat) (l : List UInt8) (hl : l.length ≤ 140737488351232) (hk : 10 * l.length + 10 ≤ k) :
    frame_sum.f k (tx l) = some (tx (be4 (Crc.sum l).toNat)) := by
  have hs := tx_size l
  unfold frame_sum.f
  rw [Crc.sum_tells (tx l) (by omega) k (by omega), tx_list]
  simp only [Option.bind_some]
  have hlt := (Crc.sum l).isLt
  rw [u64_nat _ (by omega), put4 k _ (by omega)]
  rfl

theorem close_long (k : Nat) (ver : Int) (p : ByteArray) (hp : 4194304 < p.size) : frame_Close.f k ver p = some (tx [], 2) := by
  unfold frame_Close.f
  rw [if_pos (by omega)]
  rfl
theorem close_tells (k : Nat) (ver : Nat) (hv : ver < 256) (p : ByteArray) (hp : p.size ≤ 4194304) (hk : 10 * p.size + 100 ≤ k) :
    frame_Close.f k (ver : Int) p = some (tx (frameOf ver p.data.toList), 0) := by
  have hlen : p.data.toList.length = p.size := by rw [Array.length_toList]; rfl
  have hs1 := tx_size (be1 ver)
  have hs4 := tx_size (be4 p.size)
  have hl1 : (be1 ver).length = 1 := rfl
  have hl4 : (be4 p.size).length = 4 := rfl
  have hb : (tx (be1 ver) ++ tx (be4 p.size) ++ p) = tx (bodyOf ver p.data.toList) := by
    rw [← tx_of p, tx_app, tx_app, tx_of p]
    unfold bodyOf
    rw [hlen]
  have hz := tx_size (be4 (Crc.sum (bodyOf ver p.data.toList)).toNat)
  have hlz : (be4 (Crc.sum (bodyOf ver p.data.toList)).toNat).length = 4 := rfl
  have hbl := bodyOf_length ver p.data.toList
  unfold frame_Close.f
  rw [if_neg (by omega), u64_nat ver (by omega), u64_nat p.size (by omega), put1 k ver (by omega), put4 k p.size (by omega)]
  simp only [Option.bind_some]
  rw [if_pos (by omega), if_pos (by omega), if_pos (by omega), hb, sum_tells k _ (by omega) (by omega)]
  simp only [Option.bind_some]
  rw [if_pos (by omega), show ((⟨#[80, 79, 68, 67]⟩ : ByteArray)) = tx [80, 79, 68, 67] from rfl, tx_app, tx_app]
  rfl
theorem text_tells (k : Nat) (s : ByteArray) (hs : s.size ≤ 4096) (hk : 10 ≤ k) : pack_Text.f k s = some (tx (be2 s.size ++ s.data.toList), 0) := by
  have hs2 := tx_size (be2 s.size)
  have hl2 : (be2 s.size).length = 2 := rfl
  unfold pack_Text.f
  rw [if_neg (by omega), u64_nat _ (by omega), put2 k _ (by omega)]
  simp only [Option.bind_some]
  rw [if_pos (by omega), ← tx_app, tx_of]
theorem awake2 (k : Nat) (hk : 20 ≤ k) : bosunlaw02_Awake.f k = some true := by
  unfold bosunlaw02_Awake.f
  rw [text_tells k ⟨#[97]⟩ (by decide) (by omega), show (258 : Int) = ((258 : Nat) : Int) from rfl, put2 k 258 (by omega)]
  simp only [Option.bind_some]
  rw [if_pos (by rw [Go.ByteArray.toList_eq]; rfl), if_pos (by rw [Go.ByteArray.toList_eq]; rfl)]
  rfl
theorem awake3 (k : Nat) (hk : 200 ≤ k) : bosunlaw03_Awake.f k = some true := by
  unfold bosunlaw03_Awake.f
  rw [show (3 : Int) = ((3 : Nat) : Int) from rfl, close_tells k 3 (by omega) ⟨#[]⟩ (by decide) (by show 10 * 0 + 100 ≤ k; omega), Crc.awake1 k (by omega), awake2 k (by omega)]
  simp only [Option.bind_some]
  have hl : (tx (frameOf 3 [])).size = 13 := by rw [tx_size, frameOf_length]; rfl
  rw [if_pos trivial, if_pos trivial, if_pos trivial, if_pos (by omega), if_pos (by decide), if_pos (by omega)]
  rw [Go.ByteArray.toList_eq, Crc.ext_take]
  rfl

end Go.Proofs.Ytlkfcamogfjngaa.Fr
