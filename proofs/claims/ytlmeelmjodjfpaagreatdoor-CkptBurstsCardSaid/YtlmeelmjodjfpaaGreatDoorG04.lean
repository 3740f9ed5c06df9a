/- CkptBursts, part 5 of 24 of its proof: for every input that meets the row's condition (laid, tied) the call returns true and each argument reads behind it as before. -/
import Derived.Test.YtlmeelmjodjfpaaGreatDoorG03
import Derived.Test.YtlmeelmjodjfpaaGreatDoorG02
section
namespace Go.Proofs.YtlmeelmjodjfpaaGreatDoor.Fr
open Go.RowKit Go.Proofs.YtlmeelmjodjfpaaGreatDoor.PB Go.Proofs.YtlmeelmjodjfpaaGreatDoorW.PrintWords Go.Proofs.YtlmeelmjodjfpaaGreatDoorW.PrintLast
open Go.Proofs.YtlmeelmjodjfpaaGreatDoor
/-- A text of bytes. -/
def tx (l : List UInt8) : ByteArray := ⟨l.toArray⟩
theorem tx_list (l : List UInt8) : (tx l).data.toList = l := rfl
theorem tx_size (l : List UInt8) : (tx l).size = l.length := by
  show l.toArray.size = l.length
  exact List.size_toArray
theorem tx_of (s : ByteArray) : tx s.data.toList = s := Crc.eq_list rfl
theorem tx_app (l m : List UInt8) : tx l ++ tx m = tx (l ++ m) := Crc.eq_list (by rw [Crc.app_list]; rfl)
def be1 (v : Nat) : List UInt8 := [UInt8.ofNat (v % 256)]
def be2 (v : Nat) : List UInt8 := [UInt8.ofNat (v / 256 % 256), UInt8.ofNat (v % 256)]
def be4 (v : Nat) : List UInt8 := [UInt8.ofNat (v / 16777216 % 256), UInt8.ofNat (v / 65536 % 256), UInt8.ofNat (v / 256 % 256), UInt8.ofNat (v % 256)]
theorem sh (v : Nat) (j : Nat) (hj : j ≤ 64) : shr .u64 (v : Int) (j : Int) % 256 = ((v / 2 ^ j % 256 : Nat) : Int) := by
  unfold shr
  rw [show IntKind.bits .u64 = 64 from rfl, Int.toNat_natCast, Nat.min_eq_left hj]
  simp
theorem w64 (n : Int) (h : -1000 ≤ n ∧ n ≤ 1000) : wrap64 n = n := by unfold wrap64; omega
def fill (n v : Nat) : Nat → Nat → List Int → List Int
  | 0, _, xs => xs
  | d + 1, i, xs => fill n v d (i + 1) (xs.set (n - 1 - i) ((v / 2 ^ (8 * i) % 256 : Nat) : Int))
theorem put_loop (n v : Nat) (hn : n ≤ 8) (d : Nat) : ∀ (k i : Nat) (xs : List Int), i + d = n → xs.length = n →
    pack_Put.l0 (k + d + 1) (n : Int) (v : Int) xs (n : Int) (i : Int) = some (strOfNums (fill n v d i xs)) := by
  induction d with
  | zero =>
    intro k i xs hi hx
    rw [pack_Put.l0, if_neg (by omega)]
    rfl
  | succ d ih =>
    intro k i xs hi hx
    have e1 : wrap64 (8 * (i : Int)) = ((8 * i : Nat) : Int) := by rw [w64 _ (by omega)]; omega
    have e2 : wrap64 (wrap64 ((n : Int) - 1) - (i : Int)) = ((n - 1 - i : Nat) : Int) := by rw [w64 ((n : Int) - 1) (by omega), w64 _ (by omega)]; omega
    have e3 : wrap64 ((i : Int) + 1) = ((i + 1 : Nat) : Int) := by rw [w64 _ (by omega)]; omega
    rw [show k + (d + 1) + 1 = (k + d + 1) + 1 from by omega, pack_Put.l0, e1, e2, e3, if_pos (by omega), if_pos (by omega), if_pos (by omega), if_pos (by omega), sh v (8 * i) (by omega),
      ih k (i + 1) _ (by omega) (by rw [List.length_set]; exact hx)]
    rfl
theorem put_tells (n v k : Nat) (hn : n = 1 ∨ n = 2 ∨ n = 4 ∨ n = 8) (hk : 10 ≤ k) : pack_Put.f k (n : Int) (v : Int) = some (strOfNums (fill n v n 0 (List.replicate n 0))) := by
  obtain ⟨m, rfl⟩ : ∃ m, k = m + n + 1 := ⟨k - n - 1, by omega⟩
  have hz : pack_size.f (n : Int) = some true := by
    unfold pack_size.f
    rcases hn with rfl | rfl | rfl | rfl <;> rfl
  unfold pack_Put.f
  rw [hz]
  simp only [Option.bind_some]
  rw [if_pos trivial, if_pos (by omega), if_pos (by omega), Int.toNat_natCast]
  exact put_loop n v (by omega) n m 0 _ (by omega) (by rw [List.length_replicate])
theorem put1 (k : Nat) (v : Nat) (hk : 10 ≤ k) : pack_Put.f k 1 (v : Int) = some (tx (be1 v)) := by
  have h := put_tells 1 v k (by omega) hk
  rw [show ((1 : Nat) : Int) = 1 from rfl] at h
  rw [h]
  simp only [fill, List.replicate, List.set, Nat.mul_zero, Nat.pow_zero, Nat.div_one, Nat.sub_self]
  rfl
theorem put2 (k : Nat) (v : Nat) (hk : 10 ≤ k) : pack_Put.f k 2 (v : Int) = some (tx (be2 v)) := by
  have h := put_tells 2 v k (by omega) hk
  rw [show ((2 : Nat) : Int) = 2 from rfl] at h
  rw [h]
  simp only [fill, List.replicate, List.set, Nat.mul_zero, Nat.pow_zero, Nat.div_one, Nat.sub_self]
  rfl
theorem put4 (k : Nat) (v : Nat) (hk : 10 ≤ k) : pack_Put.f k 4 (v : Int) = some (tx (be4 v)) := by
  have h := put_tells 4 v k (by omega) hk
  rw [show ((4 : Nat) : Int) = 4 from rfl] at h
  rw [h]
  simp only [fill, List.replicate, List.set, Nat.mul_zero, Nat.pow_zero, Nat.div_one, Nat.sub_self]
  rfl
theorem u64_nat (n : Nat) (h : n < 18446744073709551616) : IntKind.u64.wrap (n : Int) = (n : Int) := IntWalk.u64_in _ (by omega)
/-- What stands behind the magic, ahead of the sum. -/
def bodyOf (ver : Nat) (p : List UInt8) : List UInt8 := be1 ver ++ be4 p.length ++ p
/-- A frame. -/
def frameOf (ver : Nat) (p : List UInt8) : List UInt8 := [80, 79, 68, 67] ++ bodyOf ver p ++ be4 (Crc.sum (bodyOf ver p)).toNat
theorem bodyOf_length (ver : Nat) (p : List UInt8) : (bodyOf ver p).length = p.length + 5 := by
  simp [bodyOf, be1, be4]
theorem frameOf_length (ver : Nat) (p : List UInt8) : (frameOf ver p).length = p.length + 13 := by
  simp [frameOf, bodyOf_length, be4]
theorem sum_tells (k : Nat) (l : List UInt8) (hl : l.length ≤ 140737488351232) (hk : 10 * l.length + 10 ≤ k) :
    frame_sum.f k (tx l) = some (tx (be4 (Crc.sum l).toNat)) := by
  have hs := tx_size l
  unfold frame_sum.f
  rw [Crc.sum_tells (tx l) (by omega) k (by omega), tx_list]
  simp only [Option.bind_some]
  have hlt := (Crc.sum l).isLt
  rw [u64_nat _ (by omega), put4 k _ (by omega)]
  rfl
theorem close_long (k : Nat) (ver : Int) (p : ByteArray) (hp : 4194304 < p.size) : frame_Close.f k ver p = some (tx [], 2) := by
  unfold frame_Close.f
  rw [if_pos (by omega)]
  rfl
theorem close_tells (k : Nat) (ver : Nat) (hv : ver < 256) (p : ByteArray) (hp : p.size ≤ 4194304) (hk : 10 * p.size + 100 ≤ k) :
    frame_Close.f k (ver : Int) p = some (tx (frameOf ver p.data.toList), 0) := by
  have hlen : p.data.toList.length = p.size := by rw [Array.length_toList]; rfl
  have hs1 := tx_size (be1 ver)
  have hs4 := tx_size (be4 p.size)
  have hl1 : (be1 ver).length = 1 := rfl
  have hl4 : (be4 p.size).length = 4 := rfl
  have hb : (tx (be1 ver) ++ tx (be4 p.size) ++ p) = tx (bodyOf ver p.data.toList) := by
    rw [← tx_of p, tx_app, tx_app, tx_of p]
    unfold bodyOf
    rw [hlen]
  have hz := tx_size (be4 (Crc.sum (bodyOf ver p.data.toList)).toNat)
  have hlz : (be4 (Crc.sum (bodyOf ver p.data.toList)).toNat).length = 4 := rfl
  have hbl := bodyOf_length ver p.data.toList
  unfold frame_Close.f
  rw [if_neg (by omega), u64_nat ver (by omega), u64_nat p.size (by omega), put1 k ver (by omega), put4 k p.size (by omega)]
  simp only [Option.bind_some]
  rw [if_pos (by omega), if_pos (by omega), if_pos (by omega), hb, sum_tells k _ (by omega) (by omega)]
  simp only [Option.bind_some]
  rw [if_pos (by omega), show ((⟨#[80, 79, 68, 67]⟩ : ByteArray)) = tx [80, 79, 68, 67] from rfl, tx_app, tx_app]
  rfl
theorem text_tells (k : Nat) (s : ByteArray) (hs : s.size ≤ 4096) (hk : 10 ≤ k) : pack_Text.f k s = some (tx (be2 s.size ++ s.data.toList), 0) := by
  have hs2 := tx_size (be2 s.size)
  have hl2 : (be2 s.size).length = 2 := rfl
  unfold pack_Text.f
  rw [if_neg (by omega), u64_nat _ (by omega), put2 k _ (by omega)]
  simp only [Option.bind_some]
  rw [if_pos (by omega), ← tx_app, tx_of]
theorem awake2 (k : Nat) (hk : 20 ≤ k) : bosunlaw02_Awake.f k = some true := by
  unfold bosunlaw02_Awake.f
  rw [text_tells k ⟨#[97]⟩ (by decide) (by omega), show (258 : Int) = ((258 : Nat) : Int) from rfl, put2 k 258 (by omega)]
  simp only [Option.bind_some]
  rw [if_pos (by rw [Go.ByteArray.toList_eq]; rfl), if_pos (by rw [Go.ByteArray.toList_eq]; rfl)]
  rfl
theorem awake3 (k : Nat) (hk : 200 ≤ k) : bosunlaw03_Awake.f k = some true := by
  unfold bosunlaw03_Awake.f
  rw [show (3 : Int) = ((3 : Nat) : Int) from rfl, close_tells k 3 (by omega) ⟨#[]⟩ (by decide) (by show 10 * 0 + 100 ≤ k; omega), Crc.awake1 k (by omega), awake2 k (by omega)]
  simp only [Option.bind_some]
  have hl : (tx (frameOf 3 [])).size = 13 := by rw [tx_size, frameOf_length]; rfl
  rw [if_pos trivial, if_pos trivial, if_pos trivial, if_pos (by omega), if_pos (by decide), if_pos (by omega)]
  rw [Go.ByteArray.toList_eq, Crc.ext_take]
  rfl
end Go.Proofs.YtlmeelmjodjfpaaGreatDoor.Fr
end
section
namespace Go.Proofs.YtlmeelmjodjfpaaGreatDoor.PB
open Go.RowKit Go.Proofs.YtlmeelmjodjfpaaGreatDoorW.PrintWords Go.Proofs.YtlmeelmjodjfpaaGreatDoorW.PrintLast Go.Proofs.YtlmeelmjodjfpaaGreatDoorW.PrintMore
attribute [local go_sem] max2_int min2_int max_two min_two max_three min_three max_four min_four   -- for this text's walks alone
set_option linter.unusedVariables false
set_option linter.unusedSimpArgs false
/-- A state of type 108 at block g of W; what its slices lead to came in by w0. -/
def IsS108 (w0 W : World) (g : Nat) (f0 : ByteArray) (f1 : Int) : Prop := W.heap[g]? = some (.cells #[.string f0, .int .i64 f1] 108 (0, 0)) ∧ w0.heap.size ≤ g
theorem IsS108.grown {w0 W : World} {g : Nat} {f0 : ByteArray} {f1 : Int} {W1 : World} {row : Option Nat} (h : IsS108 w0 W g f0 f1) (hw : W.grownBy W1 row) (hne : some g ≠ row) : IsS108 w0 W1 g f0 f1 := by
  obtain ⟨hb, hg⟩ := h
  exact ⟨blk_grown hb hw hne, hg⟩
theorem IsS108.below {w0 W : World} {g : Nat} {f0 : ByteArray} {f1 : Int} {W1 : World} (h : IsS108 w0 W g f0 f1) (hw : Below W.heap.size W W1) : IsS108 w0 W1 g f0 f1 := h.grown (grown_of_below hw none) (by simp)
theorem IsS108.alloc {w0 W : World} {g : Nat} {f0 : ByteArray} {f1 : Int} (h : IsS108 w0 W g f0 f1) (o : Obj) : IsS108 w0 (W.alloc o) g f0 f1 := h.below (below_alloc (Below.refl _ _) o)
theorem IsS108.drewN {w0 W : World} {g : Nat} {f0 : ByteArray} {f1 : Int} (h : IsS108 w0 W g f0 f1) (m : Nat) : IsS108 w0 (W.drewN m) g f0 f1 := h
theorem IsS108.drew {w0 W : World} {g : Nat} {f0 : ByteArray} {f1 : Int} (h : IsS108 w0 W g f0 f1) : IsS108 w0 W.drew g f0 f1 := h
theorem IsS108.ge {w0 W : World} {g : Nat} {f0 : ByteArray} {f1 : Int} (h : IsS108 w0 W g f0 f1) : w0.heap.size ≤ g := by
  obtain ⟨hb, hg⟩ := h
  exact hg
theorem cellS108_0 {W : World} {g : Nat} {f0 : ByteArray} {f1 : Int} (h : W.heap[g]? = some (.cells #[.string f0, .int .i64 f1] 108 (0, 0))) : W.cell? ⟨g, 0, none⟩ = some (.string f0) := (blk_cell h 0).trans rfl
theorem IsS108.set_0 {w0 W : World} {g : Nat} {f0 : ByteArray} {f1 : Int} (h : IsS108 w0 W g f0 f1) (x : ByteArray) : IsS108 w0 (W.setCell ⟨g, 0, none⟩ (.string x)) g x f1 := by
  obtain ⟨hb, hg⟩ := h
  exact ⟨by simpa using blk_set hb 0 (.string x), hg⟩
theorem cellS108_1 {W : World} {g : Nat} {f0 : ByteArray} {f1 : Int} (h : W.heap[g]? = some (.cells #[.string f0, .int .i64 f1] 108 (0, 0))) : W.cell? ⟨g, 1, none⟩ = some (.int .i64 f1) := (blk_cell h 1).trans rfl
theorem IsS108.set_1 {w0 W : World} {g : Nat} {f0 : ByteArray} {f1 : Int} (h : IsS108 w0 W g f0 f1) (x : Int) : IsS108 w0 (W.setCell ⟨g, 1, none⟩ (.int .i64 x)) g f0 x := by
  obtain ⟨hb, hg⟩ := h
  exact ⟨by simpa using blk_set hb 1 (.int .i64 x), hg⟩
theorem IsS108.new (w0 W : World) (f0 : ByteArray) (f1 : Int) (hB : Below w0.heap.size w0 W) : IsS108 w0 (W.alloc (.cells #[.string f0, .int .i64 f1] 108)) W.heap.size f0 f1 := ⟨by simpa using heap_alloc_new W _, hB.size⟩
def pack_Taker_bytes.f (s0_0 : ByteArray) (s0_1 : Int) (a1 : Int) : Option (ByteArray × Bool × ByteArray × Int) := if s0_1 = 0 then (if a1 > (s0_0.size : Int) then (some ((⟨#[]⟩ : ByteArray), false, s0_0, 1)) else (if 0 ≤ a1 then (if a1 ≤ (s0_0.size : Int) then (some (s0_0.extract 0 (a1 : Int).toNat, true, s0_0.extract (a1 : Int).toNat s0_0.size, s0_1)) else (none)) else (none))) else (some ((⟨#[]⟩ : ByteArray), false, s0_0, s0_1))
set_option maxHeartbeats 8000000 in
set_option maxRecDepth 100000 in
theorem pack_Taker_bytes.calls (g : Nat) (s0_0 : ByteArray) (s0_1 : Int) (a1 : Int) (r1 : ByteArray) (r2 : Bool) (r3 : ByteArray) (r4 : Int) (w0 w : World) (hI : IsS108 w0 w g s0_0 s0_1) (hB : Below w0.heap.size w0 w) (h : pack_Taker_bytes.f s0_0 s0_1 a1 = some (r1, r2, r3, r4)) :
    Calls Tryz.prog 88 #[.pointer (some ⟨g, 0, none⟩), .int .i64 a1] w fun e w' => e = .returned (.tuple #[.string r1, .bool r2]) ∧ IsS108 w0 w' g r3 r4 ∧ Below w0.heap.size w0 w' ∧ KeepBut w w' g none := by
  have HI0 := Aside0.mk hI
  have HK := Aside0.mk (KeepBut.refl w g none)
  have HL := Aside0.mk hB.size
  clear hI
  have HW0 := Aside0.mk hB.size
  have HB := Aside0.mk hB
  clear hB
  have H : (if s0_1 = 0 then (if a1 > (s0_0.size : Int) then (some ((⟨#[]⟩ : ByteArray), false, s0_0, 1)) else (if 0 ≤ a1 then (if a1 ≤ (s0_0.size : Int) then (some (s0_0.extract 0 (a1 : Int).toNat, true, s0_0.extract (a1 : Int).toNat s0_0.size, s0_1)) else (none)) else (none))) else (some ((⟨#[]⟩ : ByteArray), false, s0_0, s0_1))) = some (r1, r2, r3, r4) := h
  clear h
  by_cases c3 : s0_1 = 0
  · rw [if_pos c3] at H
    have c3b0 : (s0_1 == 0) = true := beq_iff_eq.mpr c3
    have c3b1 : (s0_1 != 0) = false := bne_eq_false_iff_eq.mpr c3
    clear c3
    by_cases c4 : a1 > (s0_0.size : Int)
    · rw [if_pos c4] at H
      have c4b0 : decide ((s0_0.size : Int) < a1) = true := decide_eq_true c4
      clear c4
      simp only [Option.some.injEq, Prod.mk.injEq] at H
      obtain ⟨rfl, rfl, rfl, rfl⟩ := H
      obtain ⟨HGz5, hgz5⟩ := HI0.out
      have hcz5_0 := cellS108_0 HGz5
      have hcz5_1 := cellS108_1 HGz5
      have hfz5_0 := blk_frozen HGz5 0
      have hfz5_1 := blk_frozen HGz5 1
      clear HGz5 hgz5
      go_enter Tryz.func88, Tryz.ntmps88
      go_wp2
      go_ret2
      exact ⟨by first | rfl | (simp [errW_none, errW_some] <;> rfl) | (simp [*, errW_none, errW_some] <;> rfl), by repeat (first | (with_reducible first | exact HI0.out | apply IsS108.alloc | apply IsS108.drewN | apply IsS108.drew | apply IsS108.set_0 | apply IsS108.set_1) | exact HI0.out), by repeat (first | (with_reducible first | exact HB.out | apply below_alloc | apply pw_below_drewN | apply below_drew1 | refine below_set ?_ (IsS108.ge HI0.out)) | exact HB.out), by repeat (first | (with_reducible first | exact HK.out | apply KeepBut.set_ | apply keep_drewN | apply keep_drew | apply keep_alloc) | exact HK.out)⟩
    · rw [if_neg c4] at H
      have c4b0 : decide ((s0_0.size : Int) < a1) = false := decide_eq_false c4
      clear c4
      by_cases c6 : 0 ≤ a1
      · rw [if_pos c6] at H
        have c6b0 := eq_true c6
        have c6b1 : decide (0 ≤ a1) = true := decide_eq_true c6
        clear c6
        by_cases c7 : a1 ≤ (s0_0.size : Int)
        · rw [if_pos c7] at H
          have c7b0 := eq_true c7
          have c7b1 : decide (a1 ≤ (s0_0.size : Int)) = true := decide_eq_true c7
          clear c7
          have c8b0 := eq_true (of_decide_eq_true (by first | (with_reducible assumption) | assumption) : 0 ≤ a1)
          have c9b0 := eq_true (of_decide_eq_true (by first | (with_reducible assumption) | assumption) : a1 ≤ (s0_0.size : Int))
          simp only [Option.some.injEq, Prod.mk.injEq] at H
          obtain ⟨rfl, rfl, rfl, rfl⟩ := H
          obtain ⟨HGz10, hgz10⟩ := HI0.out
          have hcz10_0 := cellS108_0 HGz10
          have hcz10_1 := cellS108_1 HGz10
          have hfz10_0 := blk_frozen HGz10 0
          have hfz10_1 := blk_frozen HGz10 1
          clear HGz10 hgz10
          go_enter Tryz.func88, Tryz.ntmps88
          go_wp2
          go_ret2
          exact ⟨by first | rfl | (simp [errW_none, errW_some] <;> rfl) | (simp [*, errW_none, errW_some] <;> rfl), by repeat (first | (with_reducible first | exact HI0.out | apply IsS108.alloc | apply IsS108.drewN | apply IsS108.drew | apply IsS108.set_0 | apply IsS108.set_1) | exact HI0.out), by repeat (first | (with_reducible first | exact HB.out | apply below_alloc | apply pw_below_drewN | apply below_drew1 | refine below_set ?_ (IsS108.ge HI0.out)) | exact HB.out), by repeat (first | (with_reducible first | exact HK.out | apply KeepBut.set_ | apply keep_drewN | apply keep_drew | apply keep_alloc) | exact HK.out)⟩
        · rw [if_neg c7] at H
          exact absurd H (by simp)
      · rw [if_neg c6] at H
        exact absurd H (by simp)
  · rw [if_neg c3] at H
    have c3b0 : (s0_1 == 0) = false := beq_eq_false_iff_ne.mpr c3
    have c3b1 : (s0_1 != 0) = true := bne_iff_ne.mpr c3
    simp only [Option.some.injEq, Prod.mk.injEq] at H
    obtain ⟨rfl, rfl, rfl, rfl⟩ := H
    obtain ⟨HGz11, hgz11⟩ := HI0.out
    have hcz11_0 := cellS108_0 HGz11
    have hcz11_1 := cellS108_1 HGz11
    have hfz11_0 := blk_frozen HGz11 0
    have hfz11_1 := blk_frozen HGz11 1
    clear HGz11 hgz11
    go_enter Tryz.func88, Tryz.ntmps88
    go_wp2
    go_ret2
    exact ⟨by first | rfl | (simp [errW_none, errW_some] <;> rfl) | (simp [*, errW_none, errW_some] <;> rfl), by repeat (first | (with_reducible first | exact HI0.out | apply IsS108.alloc | apply IsS108.drewN | apply IsS108.drew | apply IsS108.set_0 | apply IsS108.set_1) | exact HI0.out), by repeat (first | (with_reducible first | exact HB.out | apply below_alloc | apply pw_below_drewN | apply below_drew1 | refine below_set ?_ (IsS108.ge HI0.out)) | exact HB.out), by repeat (first | (with_reducible first | exact HK.out | apply KeepBut.set_ | apply keep_drewN | apply keep_drew | apply keep_alloc) | exact HK.out)⟩
mutual
def pack_Taker_Take.j0 : Nat → Int → Bool → ByteArray → Int → Option (Int × ByteArray × Int)
  | 0, _, _, _, _ => none
  | k + 1, x1, x18, x1000, x1001 => if x18 = true then (pack_Taker_Take.j1 k x1 x1000 7) else (pack_Taker_Take.j1 k x1 x1000 x1001)
def pack_Taker_Take.j1 : Nat → Int → ByteArray → Int → Option (Int × ByteArray × Int)
  | 0, _, _, _ => none
  | k + 1, x1, x1000, x1001 => (pack_Taker_bytes.f x1000 x1001 x1).bind fun bt211 => (if bt211.2.1 = true then (pack_Taker_Take.l0 k bt211.1 0 (bt211.1.size : Int) 0 bt211.2.2.1 bt211.2.2.2) else (some (0, bt211.2.2.1, bt211.2.2.2)))
def pack_Taker_Take.l0 : Nat → ByteArray → Int → Int → Int → ByteArray → Int → Option (Int × ByteArray × Int)
  | 0, _, _, _, _, _, _ => none
  | k + 1, x5, x7, x31, x32, x1000, x1001 => if x32 < x31 then (if 0 ≤ x32 then (if x32 < (x5.size : Int) then (pack_Taker_Take.l0 k x5 (Go.bits .or .u64 (IntKind.u64.wrap (x7 * 256)) (IntKind.u64.wrap (bt x5 x32))) x31 (wrap64 (x32 + 1)) x1000 x1001) else (none)) else (none)) else (some (x7, x1000, x1001))
end
def pack_Taker_Take.f (k : Nat) (s0_0 : ByteArray) (s0_1 : Int) (a1 : Int) : Option (Int × ByteArray × Int) := if s0_1 = 0 then ((pack_size.f a1).bind fun t210 => (pack_Taker_Take.j0 k a1 (!t210) s0_0 s0_1)) else (pack_Taker_Take.j0 k a1 false s0_0 s0_1)
theorem pack_Taker_Take.mono_l : ∀ k, (∀ y0 y1 y2 y3, LeO (pack_Taker_Take.j0 k y0 y1 y2 y3) (pack_Taker_Take.j0 (k + 1) y0 y1 y2 y3)) ∧ (∀ y0 y1 y2, LeO (pack_Taker_Take.j1 k y0 y1 y2) (pack_Taker_Take.j1 (k + 1) y0 y1 y2)) ∧ (∀ y0 y1 y2 y3 y4 y5, LeO (pack_Taker_Take.l0 k y0 y1 y2 y3 y4 y5) (pack_Taker_Take.l0 (k + 1) y0 y1 y2 y3 y4 y5))
  | 0 => ⟨fun _ _ _ _ r h => by simp [pack_Taker_Take.j0] at h, fun _ _ _ r h => by simp [pack_Taker_Take.j1] at h, fun _ _ _ _ _ _ r h => by simp [pack_Taker_Take.l0] at h⟩
  | k + 1 => by
    obtain ⟨ih0, ih1, ih2⟩ := pack_Taker_Take.mono_l k
    refine ⟨?_, ?_, ?_⟩
    · intro y0 y1 y2 y3
      unfold pack_Taker_Take.j0
      repeat' first
      | (with_reducible exact ih0 _ _ _ _)
      | (with_reducible exact ih1 _ _ _)
      | (with_reducible exact ih2 _ _ _ _ _ _)
      | (with_reducible exact LeO.refl _)
      | (with_reducible exact LeO.none _)
      | (with_reducible refine LeO.ite ?_ ?_)
      | (with_reducible refine LeO.bind ?_ (fun _ => ?_))
      | exact ih0 _ _ _ _
      | exact ih1 _ _ _
      | exact ih2 _ _ _ _ _ _
      | exact LeO.none _
      | refine LeO.ite ?_ ?_
      | refine LeO.bind ?_ (fun _ => ?_)
    · intro y0 y1 y2
      unfold pack_Taker_Take.j1
      repeat' first
      | (with_reducible exact ih0 _ _ _ _)
      | (with_reducible exact ih1 _ _ _)
      | (with_reducible exact ih2 _ _ _ _ _ _)
      | (with_reducible exact LeO.refl _)
      | (with_reducible exact LeO.none _)
      | (with_reducible refine LeO.ite ?_ ?_)
      | (with_reducible refine LeO.bind ?_ (fun _ => ?_))
      | exact ih0 _ _ _ _
      | exact ih1 _ _ _
      | exact ih2 _ _ _ _ _ _
      | exact LeO.none _
      | refine LeO.ite ?_ ?_
      | refine LeO.bind ?_ (fun _ => ?_)
    · intro y0 y1 y2 y3 y4 y5
      unfold pack_Taker_Take.l0
      repeat' first
      | (with_reducible exact ih0 _ _ _ _)
      | (with_reducible exact ih1 _ _ _)
      | (with_reducible exact ih2 _ _ _ _ _ _)
      | (with_reducible exact LeO.refl _)
      | (with_reducible exact LeO.none _)
      | (with_reducible refine LeO.ite ?_ ?_)
      | (with_reducible refine LeO.bind ?_ (fun _ => ?_))
      | exact ih0 _ _ _ _
      | exact ih1 _ _ _
      | exact ih2 _ _ _ _ _ _
      | exact LeO.none _
      | refine LeO.ite ?_ ?_
      | refine LeO.bind ?_ (fun _ => ?_)
set_option maxHeartbeats 8000000 in
set_option maxRecDepth 100000 in
theorem pack_Taker_Take.calls (k : Nat) (g : Nat) (s0_0 : ByteArray) (s0_1 : Int) (a1 : Int) (r1 : Int) (r2 : ByteArray) (r3 : Int) (w0 w : World) (hI : IsS108 w0 w g s0_0 s0_1) (hB : Below w0.heap.size w0 w) (h : pack_Taker_Take.f k s0_0 s0_1 a1 = some (r1, r2, r3)) :
    Calls Tryz.prog 44 #[.pointer (some ⟨g, 0, none⟩), .int .i64 a1] w fun e w' => e = .returned (.int .u64 r1) ∧ IsS108 w0 w' g r2 r3 ∧ Below w0.heap.size w0 w' ∧ KeepBut w w' g none := by
  have HI0 := Aside0.mk hI
  have HK := Aside0.mk (KeepBut.refl w g none)
  have HL := Aside0.mk hB.size
  clear hI
  have HW0 := Aside0.mk hB.size
  have HB := Aside0.mk hB
  clear hB
  have H : (if s0_1 = 0 then ((pack_size.f a1).bind fun t210 => (pack_Taker_Take.j0 k a1 (!t210) s0_0 s0_1)) else (pack_Taker_Take.j0 k a1 false s0_0 s0_1)) = some (r1, r2, r3) := h
  clear h
  have HC3 := Aside0.mk H
  clear H
  go_enter Tryz.func44, Tryz.ntmps44
  go_upto_region 1 with (fail)
  go_cut [18] (fun v18 wc => ∃ (kq : Nat) (x18_2 : Bool), v18 = .bool x18_2 ∧ Aside0 (pack_Taker_Take.j0 kq a1 x18_2 s0_0 s0_1 = some (r1, r2, r3)) ∧ Aside0 (kq ≤ k) ∧ Aside0 (IsS108 w0 wc g s0_0 s0_1) ∧ Aside0 (KeepBut w wc g none) ∧ Aside0 (Below w0.heap.size w0 wc))
  case first =>
    have H := HC3.out
    clear HC3
    by_cases c4 : s0_1 = 0
    · rw [if_pos c4] at H
      have c4b0 : (s0_1 == 0) = true := beq_iff_eq.mpr c4
      have c4b1 : (s0_1 != 0) = false := bne_eq_false_iff_eq.mpr c4
      clear c4
      (first | rw [c4b0] | (simp only [i64_w, i32_w]; rw [c4b0]) | skip)
      replace H := Option.bind_eq_some_iff.mp H
      obtain ⟨t210, A50, H⟩ := H
      replace H : (pack_Taker_Take.j0 k a1 (!t210) s0_0 s0_1) = some (r1, r2, r3) := H
      have A5 := Aside0.mk A50
      clear A50
      have H' := Aside0.mk H
      clear H
      obtain ⟨HGz6, hgz6⟩ := HI0.out
      have hcz6_0 := cellS108_0 HGz6
      have hcz6_1 := cellS108_1 HGz6
      have hfz6_0 := blk_frozen HGz6 0
      have hfz6_1 := blk_frozen HGz6 1
      clear HGz6 hgz6
      go_wp2_with (first | (go_at_call 87; (with_reducible refine (pack_size.calls a1 t210 _ A5.out).mono ?_); rintro e w' ⟨rfl, ⟨nd, rfl⟩⟩))
      go_meet
      case rel => exact ⟨_, (!t210), (by first | rfl | (simp; done) | (simp [*]; done)), H', ⟨by first | omega | exact Nat.le_refl _⟩, ⟨by repeat (first | (with_reducible first | exact HI0.out | apply IsS108.alloc | apply IsS108.drewN | apply IsS108.drew | apply IsS108.set_0 | apply IsS108.set_1) | exact HI0.out)⟩, ⟨by repeat (first | (with_reducible first | exact HK.out | apply KeepBut.set_ | apply keep_drewN | apply keep_drew | apply keep_alloc) | exact HK.out)⟩, ⟨by repeat (first | (with_reducible first | exact HB.out | apply below_alloc | apply pw_below_drewN | apply below_drew1 | refine below_set ?_ (IsS108.ge HI0.out)) | exact HB.out)⟩⟩
    · rw [if_neg c4] at H
      have c4b0 : (s0_1 == 0) = false := beq_eq_false_iff_ne.mpr c4
      have c4b1 : (s0_1 != 0) = true := bne_iff_ne.mpr c4
      (first | rw [c4b0] | (simp only [i64_w, i32_w]; rw [c4b0]) | skip)
      have H' := Aside0.mk H
      clear H
      obtain ⟨HGz7, hgz7⟩ := HI0.out
      have hcz7_0 := cellS108_0 HGz7
      have hcz7_1 := cellS108_1 HGz7
      have hfz7_0 := blk_frozen HGz7 0
      have hfz7_1 := blk_frozen HGz7 1
      clear HGz7 hgz7
      go_wp2
      go_meet
      case rel => exact ⟨_, (false), (by first | rfl | (simp; done) | (simp [*]; done)), H', ⟨by first | omega | exact Nat.le_refl _⟩, ⟨by repeat (first | (with_reducible first | exact HI0.out | apply IsS108.alloc | apply IsS108.drewN | apply IsS108.drew | apply IsS108.set_0 | apply IsS108.set_1) | exact HI0.out)⟩, ⟨by repeat (first | (with_reducible first | exact HK.out | apply KeepBut.set_ | apply keep_drewN | apply keep_drew | apply keep_alloc) | exact HK.out)⟩, ⟨by repeat (first | (with_reducible first | exact HB.out | apply below_alloc | apply pw_below_drewN | apply below_drew1 | refine below_set ?_ (IsS108.ge HI0.out)) | exact HB.out)⟩⟩
  case rest =>
    clear HC3
    try clear p2
    try clear c4
    try clear c4b0
    try clear c4b1
    try clear hcz6_0
    try clear hcz6_1
    try clear hcz7_0
    try clear hcz7_1
    try clear hfz6_0
    try clear hfz6_1
    try clear hfz7_0
    try clear hfz7_1
    obtain ⟨kq, x18_2, rfl, HA, HJ2, HI0, HK, HB⟩ := hcut
    cases kq with
    | zero => exact absurd HA.out (by simp [pack_Taker_Take.j0])
    | succ kj2 =>
      have H := HA.out
      clear HA
      simp only [pack_Taker_Take.j0] at H
      have HC8 := Aside0.mk H
      clear H
      go_upto_if 18 with (fail)
      go_cut [] (fun wc => ∃ (kq : Nat) (x1001_7 : Int), Aside0 (pack_Taker_Take.j1 kq a1 s0_0 x1001_7 = some (r1, r2, r3)) ∧ Aside0 (kq ≤ kj2) ∧ Aside0 (IsS108 w0 wc g s0_0 x1001_7) ∧ Aside0 (KeepBut w wc g none) ∧ Aside0 (Below w0.heap.size w0 wc))
      case first =>
        have H := HC8.out
        clear HC8
        by_cases c9 : x18_2 = true
        · subst c9
          have H1 : (pack_Taker_Take.j1 kj2 a1 s0_0 7) = some (r1, r2, r3) := by rw [if_pos rfl] at H; exact H
          clear H
          have H := H1
          clear H1
          have H' := Aside0.mk H
          clear H
          obtain ⟨HGz10, hgz10⟩ := HI0.out
          have hcz10_0 := cellS108_0 HGz10
          have hcz10_1 := cellS108_1 HGz10
          have hfz10_0 := blk_frozen HGz10 0
          have hfz10_1 := blk_frozen HGz10 1
          clear HGz10 hgz10
          go_wp2
          go_meet
          case rel => exact ⟨_, (7), H', ⟨by have := HJ2.out; first | omega | exact Nat.le_refl _⟩, ⟨by repeat (first | (with_reducible first | exact HI0.out | apply IsS108.alloc | apply IsS108.drewN | apply IsS108.drew | apply IsS108.set_0 | apply IsS108.set_1) | exact HI0.out)⟩, ⟨by repeat (first | (with_reducible first | exact HK.out | apply KeepBut.set_ | apply keep_drewN | apply keep_drew | apply keep_alloc) | exact HK.out)⟩, ⟨by repeat (first | (with_reducible first | exact HB.out | apply below_alloc | apply pw_below_drewN | apply below_drew1 | refine below_set ?_ (IsS108.ge HI0.out)) | exact HB.out)⟩⟩
        · replace c9 := Bool.eq_false_iff.mpr c9
          subst c9
          have H1 : (pack_Taker_Take.j1 kj2 a1 s0_0 s0_1) = some (r1, r2, r3) := by rw [if_neg (show ¬ (false = true) by decide)] at H; exact H
          clear H
          have H := H1
          clear H1
          have H' := Aside0.mk H
          clear H
          go_wp2
          go_meet
          case rel => exact ⟨_, (s0_1), H', ⟨by have := HJ2.out; first | omega | exact Nat.le_refl _⟩, ⟨by repeat (first | (with_reducible first | exact HI0.out | apply IsS108.alloc | apply IsS108.drewN | apply IsS108.drew | apply IsS108.set_0 | apply IsS108.set_1) | exact HI0.out)⟩, ⟨by repeat (first | (with_reducible first | exact HK.out | apply KeepBut.set_ | apply keep_drewN | apply keep_drew | apply keep_alloc) | exact HK.out)⟩, ⟨by repeat (first | (with_reducible first | exact HB.out | apply below_alloc | apply pw_below_drewN | apply below_drew1 | refine below_set ?_ (IsS108.ge HI0.out)) | exact HB.out)⟩⟩
      case rest =>
        clear HC8
        try clear p2
        try clear c4
        try clear c4b0
        try clear c4b1
        try clear c9
        try clear hcz10_0
        try clear hcz10_1
        try clear hcz6_0
        try clear hcz6_1
        try clear hcz7_0
        try clear hcz7_1
        try clear hfz10_0
        try clear hfz10_1
        try clear hfz6_0
        try clear hfz6_1
        try clear hfz7_0
        try clear hfz7_1
        try clear p2
        obtain ⟨kq, x1001_7, HA, HJ7, HI0, HK, HB⟩ := hcut
        cases kq with
        | zero => exact absurd HA.out (by simp [pack_Taker_Take.j1])
        | succ kj7 =>
          have H := HA.out
          clear HA
          simp only [pack_Taker_Take.j1] at H
          replace H := Option.bind_eq_some_iff.mp H
          obtain ⟨⟨t211, t212, t213, t214⟩, A110, H⟩ := H
          replace H : (if t212 = true then (pack_Taker_Take.l0 kj7 t211 0 (t211.size : Int) 0 t213 t214) else (some (0, t213, t214))) = some (r1, r2, r3) := H
          have A11 := Aside0.mk A110
          clear A110
          by_cases c12 : t212 = true
          · subst c12
            have H1 : (pack_Taker_Take.l0 kj7 t211 0 (t211.size : Int) 0 t213 t214) = some (r1, r2, r3) := by rw [if_pos rfl] at H; exact H
            clear H
            have H := H1
            clear H1
            have H' := Aside0.mk H
            clear H
            go_wp2_with (first | ((with_reducible refine gate_callee (f := 88) rfl ?_); refine goesL_ (some 25) rfl rfl Tryz.func88 (by kernel_rfl) rfl #[.pointer (some ⟨g, 0, none⟩), .int .i64 a1] rfl (by (try simp only [List.map_toArray, List.map_cons, List.map_nil]); first | done | rfl | (simp only [List.length_drop, List.length_take]; rfl) | (simp (disch := ((try simp only [decide_eq_true_eq, decide_eq_false_iff_not] at *); omega)) only [IntWalk.u64_in, IntWalk.u32_in, IntWalk.u16_in, IntWalk.u8_in, IntWalk.i64_in] <;> rfl)) ?_; (with_reducible refine (pack_Taker_bytes.calls g s0_0 x1001_7 a1 t211 true t213 t214 w0 _ ?side1 ?side2 A11.out).mono ?_); (case side1 => repeat (first | (with_reducible first | exact HI0.out | apply IsS108.alloc | apply IsS108.drewN | apply IsS108.drew | apply IsS108.set_0 | apply IsS108.set_1) | exact HI0.out)); (case side2 => repeat (first | (with_reducible first | exact HB.out | apply below_alloc | apply pw_below_drewN | apply below_drew1 | refine below_set ?_ (IsS108.ge HI0.out)) | exact HB.out)); rintro e w13 ⟨rfl, hi, hb, hk⟩; refine ⟨_, rfl, ?_⟩; have n0_ := Aside0.mk (KeepBut.trans (by repeat (first | (with_reducible first | exact HK.out | apply KeepBut.set_ | apply keep_drewN | apply keep_drew | apply keep_alloc) | exact HK.out)) hk (.inl rfl)); have n1_ := Aside0.mk (hb); have n2_ := Aside0.mk (hi); clear HK; clear HB; clear HI0; have HK := n0_; have HB := n1_; have HI0 := n2_; clear n0_ n1_ n2_; (try clear hb); (try clear hb2); (try clear hk); (try clear hi)))
            go_loopg [7, 32] kj7 (fun kq v7 v32 w' => ∃ (x7_3 : Int) (x32_3 : Int), v7 = .int .u64 x7_3 ∧ v32 = .int .i64 x32_3 ∧ Aside0 (pack_Taker_Take.l0 kq t211 x7_3 (t211.size : Int) x32_3 t213 t214 = some (r1, r2, r3)) ∧ Aside0 (kq ≤ kj7) ∧ Aside0 (IsS108 w0 w' g t213 t214) ∧ Aside0 (KeepBut w w' g none) ∧ Aside0 (Below w0.heap.size w0 w'))
            case atStart => exact ⟨(0), (0), (by first | rfl | (simp; done) | (simp [*]; done)), (by first | rfl | (simp; done) | (simp [*]; done)), H', ⟨Nat.le_refl _⟩, ⟨by repeat (first | (with_reducible first | exact HI0.out | apply IsS108.alloc | apply IsS108.drewN | apply IsS108.drew | apply IsS108.set_0 | apply IsS108.set_1) | exact HI0.out)⟩, ⟨by repeat (first | (with_reducible first | exact HK.out | apply KeepBut.set_ | apply keep_drewN | apply keep_drew | apply keep_alloc) | exact HK.out)⟩, ⟨by repeat (first | (with_reducible first | exact HB.out | apply below_alloc | apply pw_below_drewN | apply below_drew1 | refine below_set ?_ (IsS108.ge HI0.out)) | exact HB.out)⟩⟩
            case round =>
              clear H'
              try clear c1
              try clear p2
              try clear c4
              try clear c4b0
              try clear c4b1
              try clear c8
              try clear c9
              try clear c12
              try clear hcz10_0
              try clear hcz10_1
              try clear hcz6_0
              try clear hcz6_1
              try clear hcz7_0
              try clear hcz7_1
              try clear hfz10_0
              try clear hfz10_1
              try clear hfz6_0
              try clear hfz6_1
              try clear hfz7_0
              try clear hfz7_1
              try clear p2
              obtain ⟨x7_3, x32_3, rfl, rfl, HA, HK3, HI0, HK, HB⟩ := hrel
              cases gk with
              | zero => exact absurd HA.out (by simp [pack_Taker_Take.l0])
              | succ k3 =>
                have H := HA.out
                clear HA
                simp only [pack_Taker_Take.l0] at H
                by_cases c14 : x32_3 < (t211.size : Int)
                · rw [if_pos c14] at H
                  have c14b0 : decide (x32_3 < (t211.size : Int)) = true := decide_eq_true c14
                  clear c14
                  by_cases c15 : 0 ≤ x32_3
                  · rw [if_pos c15] at H
                    have c15b0 : decide (0 ≤ x32_3) = true := decide_eq_true c15
                    clear c15
                    by_cases c16 : x32_3 < (t211.size : Int)
                    · rw [if_pos c16] at H
                      have c16b0 : decide (x32_3 < (t211.size : Int)) = true := decide_eq_true c16
                      clear c16
                      have H' := Aside0.mk H
                      clear H
                      have p17 : 0 ≤ (x32_3 : Int) := of_decide_eq_true (by first | (with_reducible assumption) | assumption)
                      have q17 : x32_3 < (t211.size : Int) := of_decide_eq_true (by first | (with_reducible assumption) | assumption)
                      have hx17 := bt_at t211 x32_3
                      replace p17 := eq_true p17
                      replace q17 := eq_true q17
                      go_wp2
                      go_roundg k3
                      case measure => have := HJ2.out; have := HJ7.out; have := HK3.out; omega
                      case rel => exact ⟨(Go.bits .or .u64 (IntKind.u64.wrap (x7_3 * 256)) (IntKind.u64.wrap (bt t211 x32_3))), (wrap64 (x32_3 + 1)), (by first | rfl | (simp; done) | (simp [*]; done)), (by first | rfl | (simp; done) | (simp [*]; done)), H', ⟨by have := HJ2.out; have := HJ7.out; have := HK3.out; omega⟩, ⟨by repeat (first | (with_reducible first | exact HI0.out | apply IsS108.alloc | apply IsS108.drewN | apply IsS108.drew | apply IsS108.set_0 | apply IsS108.set_1) | exact HI0.out)⟩, ⟨by repeat (first | (with_reducible first | exact HK.out | apply KeepBut.set_ | apply keep_drewN | apply keep_drew | apply keep_alloc) | exact HK.out)⟩, ⟨by repeat (first | (with_reducible first | exact HB.out | apply below_alloc | apply pw_below_drewN | apply below_drew1 | refine below_set ?_ (IsS108.ge HI0.out)) | exact HB.out)⟩⟩
                    · rw [if_neg c16] at H
                      exact absurd H (by simp)
                  · rw [if_neg c15] at H
                    exact absurd H (by simp)
                · rw [if_neg c14] at H
                  have c14b0 : decide (x32_3 < (t211.size : Int)) = false := decide_eq_false c14
                  clear c14
                  simp only [Option.some.injEq, Prod.mk.injEq] at H
                  obtain ⟨rfl, rfl, rfl⟩ := H
                  go_wp2
                  go_ret
                  exact ⟨by first | rfl | (simp [errW_none, errW_some] <;> rfl) | (simp [*, errW_none, errW_some] <;> rfl), by repeat (first | (with_reducible first | exact HI0.out | apply IsS108.alloc | apply IsS108.drewN | apply IsS108.drew | apply IsS108.set_0 | apply IsS108.set_1) | exact HI0.out), by repeat (first | (with_reducible first | exact HB.out | apply below_alloc | apply pw_below_drewN | apply below_drew1 | refine below_set ?_ (IsS108.ge HI0.out)) | exact HB.out), by repeat (first | (with_reducible first | exact HK.out | apply KeepBut.set_ | apply keep_drewN | apply keep_drew | apply keep_alloc) | exact HK.out)⟩
          · replace c12 := Bool.eq_false_iff.mpr c12
            subst c12
            have H1 : (some (0, t213, t214)) = some (r1, r2, r3) := by rw [if_neg (show ¬ (false = true) by decide)] at H; exact H
            clear H
            have H := H1
            clear H1
            simp only [Option.some.injEq, Prod.mk.injEq] at H
            obtain ⟨rfl, rfl, rfl⟩ := H
            go_wp2_with (first | ((with_reducible refine gate_callee (f := 88) rfl ?_); refine goesL_ (some 25) rfl rfl Tryz.func88 (by kernel_rfl) rfl #[.pointer (some ⟨g, 0, none⟩), .int .i64 a1] rfl (by (try simp only [List.map_toArray, List.map_cons, List.map_nil]); first | done | rfl | (simp only [List.length_drop, List.length_take]; rfl) | (simp (disch := ((try simp only [decide_eq_true_eq, decide_eq_false_iff_not] at *); omega)) only [IntWalk.u64_in, IntWalk.u32_in, IntWalk.u16_in, IntWalk.u8_in, IntWalk.i64_in] <;> rfl)) ?_; (with_reducible refine (pack_Taker_bytes.calls g s0_0 x1001_7 a1 t211 false t213 t214 w0 _ ?side1 ?side2 A11.out).mono ?_); (case side1 => repeat (first | (with_reducible first | exact HI0.out | apply IsS108.alloc | apply IsS108.drewN | apply IsS108.drew | apply IsS108.set_0 | apply IsS108.set_1) | exact HI0.out)); (case side2 => repeat (first | (with_reducible first | exact HB.out | apply below_alloc | apply pw_below_drewN | apply below_drew1 | refine below_set ?_ (IsS108.ge HI0.out)) | exact HB.out)); rintro e w18 ⟨rfl, hi, hb, hk⟩; refine ⟨_, rfl, ?_⟩; have n0_ := Aside0.mk (KeepBut.trans (by repeat (first | (with_reducible first | exact HK.out | apply KeepBut.set_ | apply keep_drewN | apply keep_drew | apply keep_alloc) | exact HK.out)) hk (.inl rfl)); have n1_ := Aside0.mk (hb); have n2_ := Aside0.mk (hi); clear HK; clear HB; clear HI0; have HK := n0_; have HB := n1_; have HI0 := n2_; clear n0_ n1_ n2_; (try clear hb); (try clear hb2); (try clear hk); (try clear hi)))
            go_ret
            exact ⟨by first | rfl | (simp [errW_none, errW_some] <;> rfl) | (simp [*, errW_none, errW_some] <;> rfl), by repeat (first | (with_reducible first | exact HI0.out | apply IsS108.alloc | apply IsS108.drewN | apply IsS108.drew | apply IsS108.set_0 | apply IsS108.set_1) | exact HI0.out), by repeat (first | (with_reducible first | exact HB.out | apply below_alloc | apply pw_below_drewN | apply below_drew1 | refine below_set ?_ (IsS108.ge HI0.out)) | exact HB.out), by repeat (first | (with_reducible first | exact HK.out | apply KeepBut.set_ | apply keep_drewN | apply keep_drew | apply keep_alloc) | exact HK.out)⟩
mutual
def bosunlaw14_Weight.l0 : Nat → Int → List (S104) → Int → Int → Option (Int)
  | 0, _, _, _, _ => none
  | k + 1, x3, x18, x19, x20 => if x20 < x19 then (if 0 ≤ x20 then (if x20 < (x18.length : Int) then (bosunlaw14_Weight.l1 k (wrap64 (x3 + (wrap64 ((wrap64 ((wrap64 (20 + (((rd_T104 x18 x20).f0).size : Int))) + (((rd_T104 x18 x20).f1).size : Int))) + (wrap64 (10 * (((rd_T104 x18 x20).f3).length : Int))))))) x18 x19 x20 ((rd_T104 x18 x20).f2) (((rd_T104 x18 x20).f2).length : Int) 0 ((rd_T104 x18 x20).f0) ((rd_T104 x18 x20).f1) ((rd_T104 x18 x20).f2) ((rd_T104 x18 x20).f3) ((rd_T104 x18 x20).f4) ((rd_T104 x18 x20).f5) ((rd_T104 x18 x20).f6)) else (none)) else (none)) else (some x3)
def bosunlaw14_Weight.l1 : Nat → Int → List (S104) → Int → Int → List ByteArray → Int → Int → ByteArray → ByteArray → List ByteArray → List (S160) → Int → Int → List (S161) → Option (Int)
  | 0, _, _, _, _, _, _, _, _, _, _, _, _, _, _ => none
  | k + 1, x3, x18, x19, x20, x40, x41, x42, x229000, x229001, x229002, x229003, x229004, x229005, x229006 => if x42 < x41 then (if 0 ≤ x42 then (if x42 < (x40.length : Int) then (bosunlaw14_Weight.l1 k (wrap64 (x3 + (wrap64 (10 + ((rdOf ByteArray.empty x40 x42).size : Int))))) x18 x19 x20 x40 x41 (wrap64 (x42 + 1)) x229000 x229001 x229002 x229003 x229004 x229005 x229006) else (none)) else (none)) else (bosunlaw14_Weight.l2 k x3 x18 x19 x20 x229006 (x229006.length : Int) 0)
def bosunlaw14_Weight.l2 : Nat → Int → List (S104) → Int → Int → List (S161) → Int → Int → Option (Int)
  | 0, _, _, _, _, _, _, _ => none
  | k + 1, x3, x18, x19, x20, x53, x54, x55 => if x55 < x54 then (if 0 ≤ x55 then (if x55 < (x53.length : Int) then (bosunlaw14_Weight.l2 k (wrap64 (x3 + (wrap64 ((wrap64 (10 + (((rd_T161 x53 x55).f0).size : Int))) + (((rd_T161 x53 x55).f1).size : Int))))) x18 x19 x20 x53 x54 (wrap64 (x55 + 1))) else (none)) else (none)) else (if x3 > 20000 then (some 20001) else (bosunlaw14_Weight.l0 k x3 x18 x19 (wrap64 (x20 + 1))))
end
def bosunlaw14_Weight.f (k : Nat) (a0_0 : ByteArray) (a0_1 : ByteArray) (a0_2 : Int) (a0_3 : Int) (a0_4 : Bool) (l0_5 : List (S104)) : Option (Int) := bosunlaw14_Weight.l0 k (wrap64 ((a0_0.size : Int) + (a0_1.size : Int))) l0_5 (l0_5.length : Int) 0
theorem bosunlaw14_Weight.mono_l : ∀ k, (∀ y0 y1 y2 y3, LeO (bosunlaw14_Weight.l0 k y0 y1 y2 y3) (bosunlaw14_Weight.l0 (k + 1) y0 y1 y2 y3)) ∧ (∀ y0 y1 y2 y3 y4 y5 y6 y7 y8 y9 y10 y11 y12 y13, LeO (bosunlaw14_Weight.l1 k y0 y1 y2 y3 y4 y5 y6 y7 y8 y9 y10 y11 y12 y13) (bosunlaw14_Weight.l1 (k + 1) y0 y1 y2 y3 y4 y5 y6 y7 y8 y9 y10 y11 y12 y13)) ∧ (∀ y0 y1 y2 y3 y4 y5 y6, LeO (bosunlaw14_Weight.l2 k y0 y1 y2 y3 y4 y5 y6) (bosunlaw14_Weight.l2 (k + 1) y0 y1 y2 y3 y4 y5 y6))
  | 0 => ⟨fun _ _ _ _ r h => by simp [bosunlaw14_Weight.l0] at h, fun _ _ _ _ _ _ _ _ _ _ _ _ _ _ r h => by simp [bosunlaw14_Weight.l1] at h, fun _ _ _ _ _ _ _ r h => by simp [bosunlaw14_Weight.l2] at h⟩
  | k + 1 => by
    obtain ⟨ih0, ih1, ih2⟩ := bosunlaw14_Weight.mono_l k
    refine ⟨?_, ?_, ?_⟩
    · intro y0 y1 y2 y3
      unfold bosunlaw14_Weight.l0
      repeat' first
      | (with_reducible exact ih0 _ _ _ _)
      | (with_reducible exact ih1 _ _ _ _ _ _ _ _ _ _ _ _ _ _)
      | (with_reducible exact ih2 _ _ _ _ _ _ _)
      | (with_reducible exact LeO.refl _)
      | (with_reducible exact LeO.none _)
      | (with_reducible refine LeO.ite ?_ ?_)
      | (with_reducible refine LeO.bind ?_ (fun _ => ?_))
      | exact ih0 _ _ _ _
      | exact ih1 _ _ _ _ _ _ _ _ _ _ _ _ _ _
      | exact ih2 _ _ _ _ _ _ _
      | exact LeO.none _
      | refine LeO.ite ?_ ?_
      | refine LeO.bind ?_ (fun _ => ?_)
    · intro y0 y1 y2 y3 y4 y5 y6 y7 y8 y9 y10 y11 y12 y13
      unfold bosunlaw14_Weight.l1
      repeat' first
      | (with_reducible exact ih0 _ _ _ _)
      | (with_reducible exact ih1 _ _ _ _ _ _ _ _ _ _ _ _ _ _)
      | (with_reducible exact ih2 _ _ _ _ _ _ _)
      | (with_reducible exact LeO.refl _)
      | (with_reducible exact LeO.none _)
      | (with_reducible refine LeO.ite ?_ ?_)
      | (with_reducible refine LeO.bind ?_ (fun _ => ?_))
      | exact ih0 _ _ _ _
      | exact ih1 _ _ _ _ _ _ _ _ _ _ _ _ _ _
      | exact ih2 _ _ _ _ _ _ _
      | exact LeO.none _
      | refine LeO.ite ?_ ?_
      | refine LeO.bind ?_ (fun _ => ?_)
    · intro y0 y1 y2 y3 y4 y5 y6
      unfold bosunlaw14_Weight.l2
      repeat' first
      | (with_reducible exact ih0 _ _ _ _)
      | (with_reducible exact ih1 _ _ _ _ _ _ _ _ _ _ _ _ _ _)
      | (with_reducible exact ih2 _ _ _ _ _ _ _)
      | (with_reducible exact LeO.refl _)
      | (with_reducible exact LeO.none _)
      | (with_reducible refine LeO.ite ?_ ?_)
      | (with_reducible refine LeO.bind ?_ (fun _ => ?_))
      | exact ih0 _ _ _ _
      | exact ih1 _ _ _ _ _ _ _ _ _ _ _ _ _ _
      | exact ih2 _ _ _ _ _ _ _
      | exact LeO.none _
      | refine LeO.ite ?_ ?_
      | refine LeO.bind ?_ (fun _ => ?_)
theorem bosunlaw14_Weight.mono : ∀ a0 a1 a2 a3 a4 a5 k, LeO (bosunlaw14_Weight.f k a0 a1 a2 a3 a4 a5) (bosunlaw14_Weight.f (k + 1) a0 a1 a2 a3 a4 a5) := by
  intro a0 a1 a2 a3 a4 a5 k
  obtain ⟨ih0, ih1, ih2⟩ := bosunlaw14_Weight.mono_l k
  unfold bosunlaw14_Weight.f
  repeat' first
      | (with_reducible exact ih0 _ _ _ _)
      | (with_reducible exact ih1 _ _ _ _ _ _ _ _ _ _ _ _ _ _)
      | (with_reducible exact ih2 _ _ _ _ _ _ _)
      | (with_reducible exact LeO.refl _)
      | (with_reducible exact LeO.none _)
      | (with_reducible refine LeO.ite ?_ ?_)
      | (with_reducible refine LeO.bind ?_ (fun _ => ?_))
      | exact ih0 _ _ _ _
      | exact ih1 _ _ _ _ _ _ _ _ _ _ _ _ _ _
      | exact ih2 _ _ _ _ _ _ _
      | exact LeO.none _
      | refine LeO.ite ?_ ?_
      | refine LeO.bind ?_ (fun _ => ?_)
set_option maxHeartbeats 8000000 in
set_option maxRecDepth 100000 in
theorem bosunlaw14_Weight.calls (k : Nat) (a0_0 : ByteArray) (a0_1 : ByteArray) (a0_2 : Int) (a0_3 : Int) (a0_4 : Bool) (A0_5 : Option Addr) (c0_5 : Nat) (l0_5 : List (S104)) (r : Int) (w : World) (hr0_5 : Kd.C k104 w A0_5 l0_5.length l0_5) (hc0_5 : l0_5.length ≤ c0_5) (h : bosunlaw14_Weight.f k a0_0 a0_1 a0_2 a0_3 a0_4 l0_5 = some r) :
    Calls Tryz.prog 34 #[.agg #[.string a0_0, .string a0_1, .int .i64 a0_2, .int .i64 a0_3, .bool a0_4, .slice A0_5 l0_5.length c0_5]] w fun e w' => e = .returned (.int .i64 r) ∧ Below w.heap.size w w' := by
  have hu92 := Tryz.underlying92
  have hu104 := Tryz.underlying104
  have hu161 := Tryz.underlying161
  have HR0_5 := Aside0.mk hr0_5
  have HC0_5 := Aside0.mk hc0_5
  clear hr0_5 hc0_5
  have HB := Aside0.mk (Below.refl w.heap.size w)
  have H : (bosunlaw14_Weight.l0 k (wrap64 ((a0_0.size : Int) + (a0_1.size : Int))) l0_5 (l0_5.length : Int) 0) = some r := h
  clear h
  have H' := Aside0.mk H
  clear H
  go_enter Tryz.func34, Tryz.ntmps34
  go_wp2_with (first | ((with_reducible refine gate_dst (N := 1) rfl ?_); refine box_event ?hg (N := 1) ?hd (cs := #[.string a0_0, .string a0_1, .int .i64 a0_2, .int .i64 a0_3, .bool a0_4, .slice A0_5 l0_5.length c0_5]) (t := 92) ?hr ?_; (case hd => rfl); (case hg => rfl); (case hr => first | (go_simp; done) | (go_simp; rfl)); intro gb226 hg w2 hbox hb; have n0_ := Aside0.mk (below_step (by repeat (first | (with_reducible first | exact HB.out | apply below_alloc | apply pw_below_drewN | apply below_drew1) | exact HB.out)) hb); have n1_ := Aside0.mk (hbox); have n2_ := Aside0.mk ((by rw [hg]; exact (below_size (by repeat (first | (with_reducible first | exact HB.out | apply below_alloc | apply pw_below_drewN | apply below_drew1) | exact HB.out))) : w.heap.size ≤ gb226)); have n3_ := Aside0.mk ((by rw [hg]; exact (below_size (by repeat (first | (with_reducible first | exact HB.out | apply below_alloc | apply pw_below_drewN | apply below_drew1) | exact HB.out))) : w.heap.size ≤ gb226)); clear HB; have HB := n0_; have BK226 := n1_; have GW226 := n2_; have GE226 := n3_; clear n0_ n1_ n2_ n3_; clear hb hbox hg; have hcz3_0 : w2.cell? ⟨gb226, 0, none⟩ = some (.string a0_0) := (blk_cell BK226.out 0).trans rfl; have hcz3_1 : w2.cell? ⟨gb226, 1, none⟩ = some (.string a0_1) := (blk_cell BK226.out 1).trans rfl; have hcz3_2 : w2.cell? ⟨gb226, 2, none⟩ = some (.int .i64 a0_2) := (blk_cell BK226.out 2).trans rfl; have hcz3_3 : w2.cell? ⟨gb226, 3, none⟩ = some (.int .i64 a0_3) := (blk_cell BK226.out 3).trans rfl; have hcz3_4 : w2.cell? ⟨gb226, 4, none⟩ = some (.bool a0_4) := (blk_cell BK226.out 4).trans rfl; have hcz3_5 : w2.cell? ⟨gb226, 5, none⟩ = some (.slice A0_5 l0_5.length c0_5) := (blk_cell BK226.out 5).trans rfl; have hfz3_0 := blk_frozen BK226.out 0; have hfz3_1 := blk_frozen BK226.out 1; have hfz3_2 := blk_frozen BK226.out 2; have hfz3_3 := blk_frozen BK226.out 3; have hfz3_4 := blk_frozen BK226.out 4; have hfz3_5 := blk_frozen BK226.out 5))
  go_loopg [3, 20] k (fun kq v3 v20 w' => ∃ (x3_1 : Int) (x20_1 : Int), v3 = .int .i64 x3_1 ∧ v20 = .int .i64 x20_1 ∧ Aside0 (bosunlaw14_Weight.l0 kq x3_1 l0_5 (l0_5.length : Int) x20_1 = some r) ∧ Aside0 (kq ≤ k) ∧ Aside0 (w'.heap[gb226]? = some (.cells #[.string a0_0, .string a0_1, .int .i64 a0_2, .int .i64 a0_3, .bool a0_4, (.slice A0_5 l0_5.length c0_5)] 92 (0, 0))) ∧ Aside0 (Below w.heap.size w w'))
  case atStart => exact ⟨(wrap64 ((a0_0.size : Int) + (a0_1.size : Int))), (0), (by first | rfl | (simp; done) | (simp [*]; done)), (by first | rfl | (simp; done) | (simp [*]; done)), H', ⟨Nat.le_refl _⟩, ⟨by (with_reducible repeat (first | refine blk_drewN ?_ _ | refine blk_drew ?_ | refine blk_alloc ?_ _)); exact BK226.out⟩, ⟨by repeat (first | (with_reducible first | exact HB.out | apply below_alloc | apply pw_below_drewN | apply below_drew1 | refine below_set ?_ GE226.out) | exact HB.out)⟩⟩
  case round =>
    clear H'
    try clear p2
    try clear c3
    try clear hcz3_0
    try clear hcz3_1
    try clear hcz3_2
    try clear hcz3_3
    try clear hcz3_4
    try clear hcz3_5
    try clear hfz3_0
    try clear hfz3_1
    try clear hfz3_2
    try clear hfz3_3
    try clear hfz3_4
    try clear hfz3_5
    obtain ⟨x3_1, x20_1, rfl, rfl, HA, HK1, BK226, HB⟩ := hrel
    cases gk with
    | zero => exact absurd HA.out (by simp [bosunlaw14_Weight.l0])
    | succ k1 =>
      have H := HA.out
      clear HA
      simp only [bosunlaw14_Weight.l0] at H
      by_cases c4 : x20_1 < (l0_5.length : Int)
      · rw [if_pos c4] at H
        have c4b0 : decide (x20_1 < (l0_5.length : Int)) = true := decide_eq_true c4
        clear c4
        by_cases c5 : 0 ≤ x20_1
        · rw [if_pos c5] at H
          have c5b0 : decide (0 ≤ x20_1) = true := decide_eq_true c5
          clear c5
          by_cases c6 : x20_1 < (l0_5.length : Int)
          · rw [if_pos c6] at H
            have c6b0 : decide (x20_1 < (l0_5.length : Int)) = true := decide_eq_true c6
            clear c6
            have H' := Aside0.mk H
            clear H
            have p227 : 0 ≤ (x20_1 : Int) := of_decide_eq_true (by first | (with_reducible assumption) | assumption)
            have q227 : x20_1 < (l0_5.length : Int) := of_decide_eq_true (by first | (with_reducible assumption) | assumption)
            obtain ⟨ad227, A227_2, c227_2, A227_3, c227_3, A227_6, c227_6, e227, hx227_0, hx227_1, hx227_2, hx227_3, hx227_4, hx227_5, hx227_6, hl227_2, hi227_2, hl227_3, hi227_3, hl227_6, hi227_6⟩ := at_T104 HR0_5.out x20_1 p227 q227
            cases e227
            replace hx227_0 := (HB.out.cell (World.block_lt_of_cell? w _ hx227_0)).trans hx227_0
            replace hx227_1 := (HB.out.cell (World.block_lt_of_cell? w _ hx227_1)).trans hx227_1
            replace hx227_2 := (HB.out.cell (World.block_lt_of_cell? w _ hx227_2)).trans hx227_2
            replace hx227_3 := (HB.out.cell (World.block_lt_of_cell? w _ hx227_3)).trans hx227_3
            replace hx227_4 := (HB.out.cell (World.block_lt_of_cell? w _ hx227_4)).trans hx227_4
            replace hx227_5 := (HB.out.cell (World.block_lt_of_cell? w _ hx227_5)).trans hx227_5
            replace hx227_6 := (HB.out.cell (World.block_lt_of_cell? w _ hx227_6)).trans hx227_6
            have HR227_2 := Aside0.mk hi227_2
            have HC227_2 := Aside0.mk hl227_2
            clear hi227_2 hl227_2
            have HR227_3 := Aside0.mk hi227_3
            have HC227_3 := Aside0.mk hl227_3
            clear hi227_3 hl227_3
            have HR227_6 := Aside0.mk hi227_6
            have HC227_6 := Aside0.mk hl227_6
            clear hi227_6 hl227_6
            replace p227 := eq_true p227
            replace q227 := eq_true q227
            go_wp2_with (first | ((with_reducible refine gate_dst (N := 5) rfl ?_); refine box_event ?hg (N := 5) ?hd (cs := #[.string (⟨#[]⟩ : ByteArray), .string (⟨#[]⟩ : ByteArray), .slice none 0 0, .slice none 0 0, .int .i64 0, .int .i64 0, .slice none 0 0]) (t := 104) ?hr ?_; (case hd => rfl); (case hg => rfl); (case hr => first | (go_simp; done) | (go_simp; rfl)); intro gb228 hg w7 hbox hb; have n0_ := Aside0.mk (blk_below (g := gb226) (o := .cells #[.string a0_0, .string a0_1, .int .i64 a0_2, .int .i64 a0_3, .bool a0_4, .slice (some ad227) l0_5.length c0_5] 92 (0, 0)) (by (with_reducible repeat (first | refine blk_drewN ?_ _ | refine blk_drew ?_ | refine blk_alloc ?_ _)); exact BK226.out) hb); have n1_ := Aside0.mk (below_step (by repeat (first | (with_reducible first | exact HB.out | apply below_alloc | apply pw_below_drewN | apply below_drew1 | refine below_set ?_ GE226.out) | exact HB.out)) hb); have n2_ := Aside0.mk (hbox); have n3_ := Aside0.mk ((by rw [hg]; exact (below_size (by repeat (first | (with_reducible first | exact HB.out | apply below_alloc | apply pw_below_drewN | apply below_drew1 | refine below_set ?_ GE226.out) | exact HB.out))) : w.heap.size ≤ gb228)); have n4_ := Aside0.mk ((by rw [hg]; exact (below_size (by repeat (first | (with_reducible first | exact HB.out | apply below_alloc | apply pw_below_drewN | apply below_drew1 | refine below_set ?_ GE226.out) | exact HB.out))) : w.heap.size ≤ gb228)); have n5_ := Aside0.mk ((by rw [hg]; exact Nat.ne_of_lt (blk_lt (g := gb226) (o := .cells #[.string a0_0, .string a0_1, .int .i64 a0_2, .int .i64 a0_3, .bool a0_4, .slice (some ad227) l0_5.length c0_5] 92 (0, 0)) (by (with_reducible repeat (first | refine blk_drewN ?_ _ | refine blk_drew ?_ | refine blk_alloc ?_ _)); exact BK226.out)) : gb226 ≠ gb228)); have n6_ := Aside0.mk ((by rw [hg]; exact Nat.ne_of_gt (blk_lt (g := gb226) (o := .cells #[.string a0_0, .string a0_1, .int .i64 a0_2, .int .i64 a0_3, .bool a0_4, .slice (some ad227) l0_5.length c0_5] 92 (0, 0)) (by (with_reducible repeat (first | refine blk_drewN ?_ _ | refine blk_drew ?_ | refine blk_alloc ?_ _)); exact BK226.out)) : gb228 ≠ gb226)); clear BK226; clear HB; have BK226 := n0_; have HB := n1_; have BK228 := n2_; have GW228 := n3_; have GE228 := n4_; have NB226_228 := n5_; have NB228_226 := n6_; clear n0_ n1_ n2_ n3_ n4_ n5_ n6_; clear hb hbox hg; have hnb8 := NB228_226.out; have hnc8 := NB226_228.out; have hcz9_0 : w7.cell? ⟨gb228, 0, none⟩ = some (.string (⟨#[]⟩ : ByteArray)) := (blk_cell BK228.out 0).trans rfl; have hcz9_1 : w7.cell? ⟨gb228, 1, none⟩ = some (.string (⟨#[]⟩ : ByteArray)) := (blk_cell BK228.out 1).trans rfl; have hcz9_2 : w7.cell? ⟨gb228, 2, none⟩ = some (.slice none 0 0) := (blk_cell BK228.out 2).trans rfl; have hcz9_3 : w7.cell? ⟨gb228, 3, none⟩ = some (.slice none 0 0) := (blk_cell BK228.out 3).trans rfl; have hcz9_4 : w7.cell? ⟨gb228, 4, none⟩ = some (.int .i64 0) := (blk_cell BK228.out 4).trans rfl; have hcz9_5 : w7.cell? ⟨gb228, 5, none⟩ = some (.int .i64 0) := (blk_cell BK228.out 5).trans rfl; have hcz9_6 : w7.cell? ⟨gb228, 6, none⟩ = some (.slice none 0 0) := (blk_cell BK228.out 6).trans rfl; have hfz9_0 := blk_frozen BK228.out 0; have hfz9_1 := blk_frozen BK228.out 1; have hfz9_2 := blk_frozen BK228.out 2; have hfz9_3 := blk_frozen BK228.out 3; have hfz9_4 := blk_frozen BK228.out 4; have hfz9_5 := blk_frozen BK228.out 5; have hfz9_6 := blk_frozen BK228.out 6))
            go_loopg [3, 42] k1 (fun kq v3 v42 w' => ∃ (x3_2 : Int) (x42_2 : Int), v3 = .int .i64 x3_2 ∧ v42 = .int .i64 x42_2 ∧ Aside0 (bosunlaw14_Weight.l1 kq x3_2 l0_5 (l0_5.length : Int) x20_1 ((rd_T104 l0_5 x20_1).f2) (((rd_T104 l0_5 x20_1).f2).length : Int) x42_2 ((rd_T104 l0_5 x20_1).f0) ((rd_T104 l0_5 x20_1).f1) ((rd_T104 l0_5 x20_1).f2) ((rd_T104 l0_5 x20_1).f3) ((rd_T104 l0_5 x20_1).f4) ((rd_T104 l0_5 x20_1).f5) ((rd_T104 l0_5 x20_1).f6) = some r) ∧ Aside0 (kq ≤ k1) ∧ Aside0 (w'.heap[gb226]? = some (.cells #[.string a0_0, .string a0_1, .int .i64 a0_2, .int .i64 a0_3, .bool a0_4, (.slice (some ad227) l0_5.length c0_5)] 92 (0, 0))) ∧ Aside0 (w'.heap[gb228]? = some (.cells #[.string ((rd_T104 l0_5 x20_1).f0), .string ((rd_T104 l0_5 x20_1).f1), (.slice A227_2 ((rd_T104 l0_5 x20_1).f2).length c227_2), (.slice A227_3 ((rd_T104 l0_5 x20_1).f3).length c227_3), .int .i64 ((rd_T104 l0_5 x20_1).f4), .int .i64 ((rd_T104 l0_5 x20_1).f5), (.slice A227_6 ((rd_T104 l0_5 x20_1).f6).length c227_6)] 104 (0, 0))) ∧ Aside0 (Below w.heap.size w w'))
            case atStart => exact ⟨(wrap64 (x3_1 + (wrap64 ((wrap64 ((wrap64 (20 + (((rd_T104 l0_5 x20_1).f0).size : Int))) + (((rd_T104 l0_5 x20_1).f1).size : Int))) + (wrap64 (10 * (((rd_T104 l0_5 x20_1).f3).length : Int))))))), (0), (by first | rfl | (simp; done) | (simp [*]; done)), (by first | rfl | (simp; done) | (simp [*]; done)), H', ⟨Nat.le_refl _⟩, ⟨by (with_reducible repeat (first | refine blk_drewN ?_ _ | refine blk_drew ?_ | refine blk_alloc ?_ _)); refine blk_far ?_ NB226_228.out _; (with_reducible repeat (first | refine blk_drewN ?_ _ | refine blk_drew ?_ | refine blk_alloc ?_ _)); refine blk_far ?_ NB226_228.out _; (with_reducible repeat (first | refine blk_drewN ?_ _ | refine blk_drew ?_ | refine blk_alloc ?_ _)); refine blk_far ?_ NB226_228.out _; (with_reducible repeat (first | refine blk_drewN ?_ _ | refine blk_drew ?_ | refine blk_alloc ?_ _)); refine blk_far ?_ NB226_228.out _; (with_reducible repeat (first | refine blk_drewN ?_ _ | refine blk_drew ?_ | refine blk_alloc ?_ _)); refine blk_far ?_ NB226_228.out _; (with_reducible repeat (first | refine blk_drewN ?_ _ | refine blk_drew ?_ | refine blk_alloc ?_ _)); refine blk_far ?_ NB226_228.out _; (with_reducible repeat (first | refine blk_drewN ?_ _ | refine blk_drew ?_ | refine blk_alloc ?_ _)); refine blk_far ?_ NB226_228.out _; (with_reducible repeat (first | refine blk_drewN ?_ _ | refine blk_drew ?_ | refine blk_alloc ?_ _)); exact BK226.out⟩, ⟨by (with_reducible repeat (first | refine blk_drewN ?_ _ | refine blk_drew ?_ | refine blk_alloc ?_ _)); refine blk_put (cs := #[.string ((rd_T104 l0_5 x20_1).f0), .string ((rd_T104 l0_5 x20_1).f1), .slice A227_2 ((rd_T104 l0_5 x20_1).f2).length c227_2, .slice A227_3 ((rd_T104 l0_5 x20_1).f3).length c227_3, .int .i64 ((rd_T104 l0_5 x20_1).f4), .int .i64 ((rd_T104 l0_5 x20_1).f5), .slice none 0 0]) ?_ 6 _ rfl; (with_reducible repeat (first | refine blk_drewN ?_ _ | refine blk_drew ?_ | refine blk_alloc ?_ _)); refine blk_put (cs := #[.string ((rd_T104 l0_5 x20_1).f0), .string ((rd_T104 l0_5 x20_1).f1), .slice A227_2 ((rd_T104 l0_5 x20_1).f2).length c227_2, .slice A227_3 ((rd_T104 l0_5 x20_1).f3).length c227_3, .int .i64 ((rd_T104 l0_5 x20_1).f4), .int .i64 0, .slice none 0 0]) ?_ 5 _ rfl; (with_reducible repeat (first | refine blk_drewN ?_ _ | refine blk_drew ?_ | refine blk_alloc ?_ _)); refine blk_put (cs := #[.string ((rd_T104 l0_5 x20_1).f0), .string ((rd_T104 l0_5 x20_1).f1), .slice A227_2 ((rd_T104 l0_5 x20_1).f2).length c227_2, .slice A227_3 ((rd_T104 l0_5 x20_1).f3).length c227_3, .int .i64 0, .int .i64 0, .slice none 0 0]) ?_ 4 _ rfl; (with_reducible repeat (first | refine blk_drewN ?_ _ | refine blk_drew ?_ | refine blk_alloc ?_ _)); refine blk_put (cs := #[.string ((rd_T104 l0_5 x20_1).f0), .string ((rd_T104 l0_5 x20_1).f1), .slice A227_2 ((rd_T104 l0_5 x20_1).f2).length c227_2, .slice none 0 0, .int .i64 0, .int .i64 0, .slice none 0 0]) ?_ 3 _ rfl; (with_reducible repeat (first | refine blk_drewN ?_ _ | refine blk_drew ?_ | refine blk_alloc ?_ _)); refine blk_put (cs := #[.string ((rd_T104 l0_5 x20_1).f0), .string ((rd_T104 l0_5 x20_1).f1), .slice none 0 0, .slice none 0 0, .int .i64 0, .int .i64 0, .slice none 0 0]) ?_ 2 _ rfl; (with_reducible repeat (first | refine blk_drewN ?_ _ | refine blk_drew ?_ | refine blk_alloc ?_ _)); refine blk_put (cs := #[.string ((rd_T104 l0_5 x20_1).f0), .string (⟨#[]⟩ : ByteArray), .slice none 0 0, .slice none 0 0, .int .i64 0, .int .i64 0, .slice none 0 0]) ?_ 1 _ rfl; (with_reducible repeat (first | refine blk_drewN ?_ _ | refine blk_drew ?_ | refine blk_alloc ?_ _)); refine blk_put (cs := #[.string (⟨#[]⟩ : ByteArray), .string (⟨#[]⟩ : ByteArray), .slice none 0 0, .slice none 0 0, .int .i64 0, .int .i64 0, .slice none 0 0]) ?_ 0 _ rfl; (with_reducible repeat (first | refine blk_drewN ?_ _ | refine blk_drew ?_ | refine blk_alloc ?_ _)); exact BK228.out⟩, ⟨by repeat (first | (with_reducible first | exact HB.out | apply below_alloc | apply pw_below_drewN | apply below_drew1 | refine below_set ?_ GE226.out | refine below_set ?_ GE228.out) | exact HB.out)⟩⟩
            case round =>
              clear H'
              try clear c2
              try clear p2
              try clear q2
              try clear hx2
              try clear c3
              try clear c4
              try clear c4b0
              try clear c5
              try clear c5b0
              try clear c6
              try clear c6b0
              try clear p6
              try clear c8
              try clear hcz3_0
              try clear hcz3_1
              try clear hcz3_2
              try clear hcz3_3
              try clear hcz3_4
              try clear hcz3_5
              try clear hcz9_0
              try clear hcz9_1
              try clear hcz9_2
              try clear hcz9_3
              try clear hcz9_4
              try clear hcz9_5
              try clear hcz9_6
              try clear hfz3_0
              try clear hfz3_1
              try clear hfz3_2
              try clear hfz3_3
              try clear hfz3_4
              try clear hfz3_5
              try clear hfz9_0
              try clear hfz9_1
              try clear hfz9_2
              try clear hfz9_3
              try clear hfz9_4
              try clear hfz9_5
              try clear hfz9_6
              try clear hx227_0
              try clear hx227_1
              try clear hx227_2
              try clear hx227_3
              try clear hx227_4
              try clear hx227_5
              try clear hx227_6
              try clear p2
              try clear p227
              try clear q227
              obtain ⟨x3_2, x42_2, rfl, rfl, HA, HK2, BK226, BK228, HB⟩ := hrel
              cases gk with
              | zero => exact absurd HA.out (by simp [bosunlaw14_Weight.l1])
              | succ k2 =>
                have H := HA.out
                clear HA
                simp only [bosunlaw14_Weight.l1] at H
                by_cases c10 : x42_2 < (((rd_T104 l0_5 x20_1).f2).length : Int)
                · rw [if_pos c10] at H
                  have c10b0 : decide (x42_2 < (((rd_T104 l0_5 x20_1).f2).length : Int)) = true := decide_eq_true c10
                  clear c10
                  by_cases c11 : 0 ≤ x42_2
                  · rw [if_pos c11] at H
                    have c11b0 : decide (0 ≤ x42_2) = true := decide_eq_true c11
                    clear c11
                    by_cases c12 : x42_2 < (((rd_T104 l0_5 x20_1).f2).length : Int)
                    · rw [if_pos c12] at H
                      have c12b0 : decide (x42_2 < (((rd_T104 l0_5 x20_1).f2).length : Int)) = true := decide_eq_true c12
                      clear c12
                      have H' := Aside0.mk H
                      clear H
                      have p229 : 0 ≤ (x42_2 : Int) := of_decide_eq_true (by first | (with_reducible assumption) | assumption)
                      have q229 : x42_2 < (((rd_T104 l0_5 x20_1).f2).length : Int) := of_decide_eq_true (by first | (with_reducible assumption) | assumption)
                      obtain ⟨ad229, e229, hx229_0⟩ := Kd.at_string HR227_2.out x42_2 p229 q229
                      cases e229
                      replace hx229_0 := (HB.out.cell (World.block_lt_of_cell? w _ hx229_0)).trans hx229_0
                      replace p229 := eq_true p229
                      replace q229 := eq_true q229
                      go_wp2
                      go_roundg k2
                      case measure => have := HK1.out; have := HK2.out; omega
                      case rel => exact ⟨(wrap64 (x3_2 + (wrap64 (10 + ((rdOf ByteArray.empty ((rd_T104 l0_5 x20_1).f2) x42_2).size : Int))))), (wrap64 (x42_2 + 1)), (by first | rfl | (simp; done) | (simp [*]; done)), (by first | rfl | (simp; done) | (simp [*]; done)), H', ⟨by have := HK1.out; have := HK2.out; omega⟩, ⟨by (with_reducible repeat (first | refine blk_drewN ?_ _ | refine blk_drew ?_ | refine blk_alloc ?_ _)); exact BK226.out⟩, ⟨by (with_reducible repeat (first | refine blk_drewN ?_ _ | refine blk_drew ?_ | refine blk_alloc ?_ _)); exact BK228.out⟩, ⟨by repeat (first | (with_reducible first | exact HB.out | apply below_alloc | apply pw_below_drewN | apply below_drew1 | refine below_set ?_ GE226.out | refine below_set ?_ GE228.out) | exact HB.out)⟩⟩
                    · rw [if_neg c12] at H
                      exact absurd H (by simp)
                  · rw [if_neg c11] at H
                    exact absurd H (by simp)
                · rw [if_neg c10] at H
                  have c10b0 : decide (x42_2 < (((rd_T104 l0_5 x20_1).f2).length : Int)) = false := decide_eq_false c10
                  clear c10
                  have H' := Aside0.mk H
                  clear H
                  have hnb13 := NB228_226.out
                  have hnc13 := NB226_228.out
                  have hcz14_0 : wr.cell? ⟨gb228, 0, none⟩ = some (.string ((rd_T104 l0_5 x20_1).f0)) := (blk_cell BK228.out 0).trans rfl
                  have hcz14_1 : wr.cell? ⟨gb228, 1, none⟩ = some (.string ((rd_T104 l0_5 x20_1).f1)) := (blk_cell BK228.out 1).trans rfl
                  have hcz14_2 : wr.cell? ⟨gb228, 2, none⟩ = some (.slice A227_2 ((rd_T104 l0_5 x20_1).f2).length c227_2) := (blk_cell BK228.out 2).trans rfl
                  have hcz14_3 : wr.cell? ⟨gb228, 3, none⟩ = some (.slice A227_3 ((rd_T104 l0_5 x20_1).f3).length c227_3) := (blk_cell BK228.out 3).trans rfl
                  have hcz14_4 : wr.cell? ⟨gb228, 4, none⟩ = some (.int .i64 ((rd_T104 l0_5 x20_1).f4)) := (blk_cell BK228.out 4).trans rfl
                  have hcz14_5 : wr.cell? ⟨gb228, 5, none⟩ = some (.int .i64 ((rd_T104 l0_5 x20_1).f5)) := (blk_cell BK228.out 5).trans rfl
                  have hcz14_6 : wr.cell? ⟨gb228, 6, none⟩ = some (.slice A227_6 ((rd_T104 l0_5 x20_1).f6).length c227_6) := (blk_cell BK228.out 6).trans rfl
                  have hfz14_0 := blk_frozen BK228.out 0
                  have hfz14_1 := blk_frozen BK228.out 1
                  have hfz14_2 := blk_frozen BK228.out 2
                  have hfz14_3 := blk_frozen BK228.out 3
                  have hfz14_4 := blk_frozen BK228.out 4
                  have hfz14_5 := blk_frozen BK228.out 5
                  have hfz14_6 := blk_frozen BK228.out 6
                  go_wp2
                  go_loopg [3, 55] k2 (fun kq v3 v55 w' => ∃ (x3_3 : Int) (x55_3 : Int), v3 = .int .i64 x3_3 ∧ v55 = .int .i64 x55_3 ∧ Aside0 (bosunlaw14_Weight.l2 kq x3_3 l0_5 (l0_5.length : Int) x20_1 ((rd_T104 l0_5 x20_1).f6) (((rd_T104 l0_5 x20_1).f6).length : Int) x55_3 = some r) ∧ Aside0 (kq ≤ k2) ∧ Aside0 (w'.heap[gb226]? = some (.cells #[.string a0_0, .string a0_1, .int .i64 a0_2, .int .i64 a0_3, .bool a0_4, (.slice (some ad227) l0_5.length c0_5)] 92 (0, 0))) ∧ Aside0 (w'.heap[gb228]? = some (.cells #[.string ((rd_T104 l0_5 x20_1).f0), .string ((rd_T104 l0_5 x20_1).f1), (.slice A227_2 ((rd_T104 l0_5 x20_1).f2).length c227_2), (.slice A227_3 ((rd_T104 l0_5 x20_1).f3).length c227_3), .int .i64 ((rd_T104 l0_5 x20_1).f4), .int .i64 ((rd_T104 l0_5 x20_1).f5), (.slice A227_6 ((rd_T104 l0_5 x20_1).f6).length c227_6)] 104 (0, 0))) ∧ Aside0 (Below w.heap.size w w'))
                  case atStart => exact ⟨(x3_2), (0), (by first | rfl | (simp; done) | (simp [*]; done)), (by first | rfl | (simp; done) | (simp [*]; done)), H', ⟨Nat.le_refl _⟩, ⟨by (with_reducible repeat (first | refine blk_drewN ?_ _ | refine blk_drew ?_ | refine blk_alloc ?_ _)); exact BK226.out⟩, ⟨by (with_reducible repeat (first | refine blk_drewN ?_ _ | refine blk_drew ?_ | refine blk_alloc ?_ _)); exact BK228.out⟩, ⟨by repeat (first | (with_reducible first | exact HB.out | apply below_alloc | apply pw_below_drewN | apply below_drew1 | refine below_set ?_ GE226.out | refine below_set ?_ GE228.out) | exact HB.out)⟩⟩
                  case round =>
                    clear H'
                    try clear c1
                    try clear c2
                    try clear p2
                    try clear q2
                    try clear hx2
                    try clear c3
                    try clear c4
                    try clear c4b0
                    try clear c5
                    try clear c5b0
                    try clear c6
                    try clear c6b0
                    try clear p6
                    try clear c8
                    try clear c10
                    try clear c10b0
                    try clear c11
                    try clear c11b0
                    try clear c12
                    try clear c12b0
                    try clear c13
                    try clear hcz14_0
                    try clear hcz14_1
                    try clear hcz14_2
                    try clear hcz14_3
                    try clear hcz14_4
                    try clear hcz14_5
                    try clear hcz14_6
                    try clear hcz3_0
                    try clear hcz3_1
                    try clear hcz3_2
                    try clear hcz3_3
                    try clear hcz3_4
                    try clear hcz3_5
                    try clear hcz9_0
                    try clear hcz9_1
                    try clear hcz9_2
                    try clear hcz9_3
                    try clear hcz9_4
                    try clear hcz9_5
                    try clear hcz9_6
                    try clear hfz14_0
                    try clear hfz14_1
                    try clear hfz14_2
                    try clear hfz14_3
                    try clear hfz14_4
                    try clear hfz14_5
                    try clear hfz14_6
                    try clear hfz3_0
                    try clear hfz3_1
                    try clear hfz3_2
                    try clear hfz3_3
                    try clear hfz3_4
                    try clear hfz3_5
                    try clear hfz9_0
                    try clear hfz9_1
                    try clear hfz9_2
                    try clear hfz9_3
                    try clear hfz9_4
                    try clear hfz9_5
                    try clear hfz9_6
                    try clear hx227_0
                    try clear hx227_1
                    try clear hx227_2
                    try clear hx227_3
                    try clear hx227_4
                    try clear hx227_5
                    try clear hx227_6
                    try clear hx229_0
                    try clear p2
                    try clear p227
                    try clear p229
                    try clear p6
                    try clear q2
                    try clear q227
                    try clear q229
                    obtain ⟨x3_3, x55_3, rfl, rfl, HA, HK3, BK226, BK228, HB⟩ := hrel
                    cases gk with
                    | zero => exact absurd HA.out (by simp [bosunlaw14_Weight.l2])
                    | succ k3 =>
                      have H := HA.out
                      clear HA
                      simp only [bosunlaw14_Weight.l2] at H
                      by_cases c15 : x55_3 < (((rd_T104 l0_5 x20_1).f6).length : Int)
                      · rw [if_pos c15] at H
                        have c15b0 : decide (x55_3 < (((rd_T104 l0_5 x20_1).f6).length : Int)) = true := decide_eq_true c15
                        clear c15
                        by_cases c16 : 0 ≤ x55_3
                        · rw [if_pos c16] at H
                          have c16b0 : decide (0 ≤ x55_3) = true := decide_eq_true c16
                          clear c16
                          by_cases c17 : x55_3 < (((rd_T104 l0_5 x20_1).f6).length : Int)
                          · rw [if_pos c17] at H
                            have c17b0 : decide (x55_3 < (((rd_T104 l0_5 x20_1).f6).length : Int)) = true := decide_eq_true c17
                            clear c17
                            have H' := Aside0.mk H
                            clear H
                            have p230 : 0 ≤ (x55_3 : Int) := of_decide_eq_true (by first | (with_reducible assumption) | assumption)
                            have q230 : x55_3 < (((rd_T104 l0_5 x20_1).f6).length : Int) := of_decide_eq_true (by first | (with_reducible assumption) | assumption)
                            obtain ⟨ad230, e230, hx230_0, hx230_1⟩ := at_T161 HR227_6.out x55_3 p230 q230
                            cases e230
                            replace hx230_0 := (HB.out.cell (World.block_lt_of_cell? w _ hx230_0)).trans hx230_0
                            replace hx230_1 := (HB.out.cell (World.block_lt_of_cell? w _ hx230_1)).trans hx230_1
                            replace p230 := eq_true p230
                            replace q230 := eq_true q230
                            go_wp2_with (first | ((with_reducible refine gate_dst (N := 9) rfl ?_); refine box_event ?hg (N := 9) ?hd (cs := #[.string (⟨#[]⟩ : ByteArray), .string (⟨#[]⟩ : ByteArray)]) (t := 161) ?hr ?_; (case hd => rfl); (case hg => rfl); (case hr => first | (go_simp; done) | (go_simp; rfl)); intro gb231 hg w18 hbox hb; have n0_ := Aside0.mk (blk_below (g := gb226) (o := .cells #[.string a0_0, .string a0_1, .int .i64 a0_2, .int .i64 a0_3, .bool a0_4, .slice (some ad227) l0_5.length c0_5] 92 (0, 0)) (by (with_reducible repeat (first | refine blk_drewN ?_ _ | refine blk_drew ?_ | refine blk_alloc ?_ _)); exact BK226.out) hb); have n1_ := Aside0.mk (blk_below (g := gb228) (o := .cells #[.string ((rd_T104 l0_5 x20_1).f0), .string ((rd_T104 l0_5 x20_1).f1), .slice A227_2 ((rd_T104 l0_5 x20_1).f2).length c227_2, .slice A227_3 ((rd_T104 l0_5 x20_1).f3).length c227_3, .int .i64 ((rd_T104 l0_5 x20_1).f4), .int .i64 ((rd_T104 l0_5 x20_1).f5), .slice (some ad230) ((rd_T104 l0_5 x20_1).f6).length c227_6] 104 (0, 0)) (by (with_reducible repeat (first | refine blk_drewN ?_ _ | refine blk_drew ?_ | refine blk_alloc ?_ _)); exact BK228.out) hb); have n2_ := Aside0.mk (below_step (by repeat (first | (with_reducible first | exact HB.out | apply below_alloc | apply pw_below_drewN | apply below_drew1 | refine below_set ?_ GE226.out | refine below_set ?_ GE228.out) | exact HB.out)) hb); have n3_ := Aside0.mk (hbox); have n4_ := Aside0.mk ((by rw [hg]; exact (below_size (by repeat (first | (with_reducible first | exact HB.out | apply below_alloc | apply pw_below_drewN | apply below_drew1 | refine below_set ?_ GE226.out | refine below_set ?_ GE228.out) | exact HB.out))) : w.heap.size ≤ gb231)); have n5_ := Aside0.mk ((by rw [hg]; exact (below_size (by repeat (first | (with_reducible first | exact HB.out | apply below_alloc | apply pw_below_drewN | apply below_drew1 | refine below_set ?_ GE226.out | refine below_set ?_ GE228.out) | exact HB.out))) : w.heap.size ≤ gb231)); have n6_ := Aside0.mk ((by rw [hg]; exact Nat.ne_of_lt (blk_lt (g := gb226) (o := .cells #[.string a0_0, .string a0_1, .int .i64 a0_2, .int .i64 a0_3, .bool a0_4, .slice (some ad227) l0_5.length c0_5] 92 (0, 0)) (by (with_reducible repeat (first | refine blk_drewN ?_ _ | refine blk_drew ?_ | refine blk_alloc ?_ _)); exact BK226.out)) : gb226 ≠ gb231)); have n7_ := Aside0.mk ((by rw [hg]; exact Nat.ne_of_gt (blk_lt (g := gb226) (o := .cells #[.string a0_0, .string a0_1, .int .i64 a0_2, .int .i64 a0_3, .bool a0_4, .slice (some ad227) l0_5.length c0_5] 92 (0, 0)) (by (with_reducible repeat (first | refine blk_drewN ?_ _ | refine blk_drew ?_ | refine blk_alloc ?_ _)); exact BK226.out)) : gb231 ≠ gb226)); have n8_ := Aside0.mk ((by rw [hg]; exact Nat.ne_of_lt (blk_lt (g := gb228) (o := .cells #[.string ((rd_T104 l0_5 x20_1).f0), .string ((rd_T104 l0_5 x20_1).f1), .slice A227_2 ((rd_T104 l0_5 x20_1).f2).length c227_2, .slice A227_3 ((rd_T104 l0_5 x20_1).f3).length c227_3, .int .i64 ((rd_T104 l0_5 x20_1).f4), .int .i64 ((rd_T104 l0_5 x20_1).f5), .slice (some ad230) ((rd_T104 l0_5 x20_1).f6).length c227_6] 104 (0, 0)) (by (with_reducible repeat (first | refine blk_drewN ?_ _ | refine blk_drew ?_ | refine blk_alloc ?_ _)); exact BK228.out)) : gb228 ≠ gb231)); have n9_ := Aside0.mk ((by rw [hg]; exact Nat.ne_of_gt (blk_lt (g := gb228) (o := .cells #[.string ((rd_T104 l0_5 x20_1).f0), .string ((rd_T104 l0_5 x20_1).f1), .slice A227_2 ((rd_T104 l0_5 x20_1).f2).length c227_2, .slice A227_3 ((rd_T104 l0_5 x20_1).f3).length c227_3, .int .i64 ((rd_T104 l0_5 x20_1).f4), .int .i64 ((rd_T104 l0_5 x20_1).f5), .slice (some ad230) ((rd_T104 l0_5 x20_1).f6).length c227_6] 104 (0, 0)) (by (with_reducible repeat (first | refine blk_drewN ?_ _ | refine blk_drew ?_ | refine blk_alloc ?_ _)); exact BK228.out)) : gb231 ≠ gb228)); clear BK226; clear BK228; clear HB; have BK226 := n0_; have BK228 := n1_; have HB := n2_; have BK231 := n3_; have GW231 := n4_; have GE231 := n5_; have NB226_231 := n6_; have NB231_226 := n7_; have NB228_231 := n8_; have NB231_228 := n9_; clear n0_ n1_ n2_ n3_ n4_ n5_ n6_ n7_ n8_ n9_; clear hb hbox hg; have hnb19 := NB231_226.out; have hnc19 := NB226_231.out; have hnb20 := NB231_228.out; have hnc20 := NB228_231.out; have hcz21_0 : w18.cell? ⟨gb231, 0, none⟩ = some (.string (⟨#[]⟩ : ByteArray)) := (blk_cell BK231.out 0).trans rfl; have hcz21_1 : w18.cell? ⟨gb231, 1, none⟩ = some (.string (⟨#[]⟩ : ByteArray)) := (blk_cell BK231.out 1).trans rfl; have hfz21_0 := blk_frozen BK231.out 0; have hfz21_1 := blk_frozen BK231.out 1))
                            go_roundg k3
                            case measure => have := HK1.out; have := HK2.out; have := HK3.out; omega
                            case rel => exact ⟨(wrap64 (x3_3 + (wrap64 ((wrap64 (10 + (((rd_T161 ((rd_T104 l0_5 x20_1).f6) x55_3).f0).size : Int))) + (((rd_T161 ((rd_T104 l0_5 x20_1).f6) x55_3).f1).size : Int))))), (wrap64 (x55_3 + 1)), (by first | rfl | (simp; done) | (simp [*]; done)), (by first | rfl | (simp; done) | (simp [*]; done)), H', ⟨by have := HK1.out; have := HK2.out; have := HK3.out; omega⟩, ⟨by (with_reducible repeat (first | refine blk_drewN ?_ _ | refine blk_drew ?_ | refine blk_alloc ?_ _)); refine blk_far ?_ NB226_231.out _; (with_reducible repeat (first | refine blk_drewN ?_ _ | refine blk_drew ?_ | refine blk_alloc ?_ _)); refine blk_far ?_ NB226_231.out _; (with_reducible repeat (first | refine blk_drewN ?_ _ | refine blk_drew ?_ | refine blk_alloc ?_ _)); exact BK226.out⟩, ⟨by (with_reducible repeat (first | refine blk_drewN ?_ _ | refine blk_drew ?_ | refine blk_alloc ?_ _)); refine blk_far ?_ NB228_231.out _; (with_reducible repeat (first | refine blk_drewN ?_ _ | refine blk_drew ?_ | refine blk_alloc ?_ _)); refine blk_far ?_ NB228_231.out _; (with_reducible repeat (first | refine blk_drewN ?_ _ | refine blk_drew ?_ | refine blk_alloc ?_ _)); exact BK228.out⟩, ⟨by repeat (first | (with_reducible first | exact HB.out | apply below_alloc | apply pw_below_drewN | apply below_drew1 | refine below_set ?_ GE226.out | refine below_set ?_ GE228.out | refine below_set ?_ GE231.out) | exact HB.out)⟩⟩
                          · rw [if_neg c17] at H
                            exact absurd H (by simp)
                        · rw [if_neg c16] at H
                          exact absurd H (by simp)
                      · rw [if_neg c15] at H
                        have c15b0 : decide (x55_3 < (((rd_T104 l0_5 x20_1).f6).length : Int)) = false := decide_eq_false c15
                        clear c15
                        by_cases c22 : x3_3 > 20000
                        · rw [if_pos c22] at H
                          have c22b0 : decide (20000 < x3_3) = true := decide_eq_true c22
                          clear c22
                          obtain rfl := Option.some.inj H
                          go_wp2
                          go_ret
                          exact ⟨by first | rfl | (simp [errW_none, errW_some] <;> rfl) | (simp [*, errW_none, errW_some] <;> rfl), by repeat (first | (with_reducible first | exact HB.out | apply below_alloc | apply pw_below_drewN | apply below_drew1 | refine below_set ?_ GE226.out | refine below_set ?_ GE228.out) | exact HB.out)⟩
                        · rw [if_neg c22] at H
                          have c22b0 : decide (20000 < x3_3) = false := decide_eq_false c22
                          clear c22
                          have H' := Aside0.mk H
                          clear H
                          go_wp2
                          go_roundg k3
                          case measure => have := HK1.out; have := HK2.out; have := HK3.out; omega
                          case rel => exact ⟨(x3_3), (wrap64 (x20_1 + 1)), (by first | rfl | (simp; done) | (simp [*]; done)), (by first | rfl | (simp; done) | (simp [*]; done)), H', ⟨by have := HK1.out; have := HK2.out; have := HK3.out; omega⟩, ⟨by (with_reducible repeat (first | refine blk_drewN ?_ _ | refine blk_drew ?_ | refine blk_alloc ?_ _)); exact BK226.out⟩, ⟨by repeat (first | (with_reducible first | exact HB.out | apply below_alloc | apply pw_below_drewN | apply below_drew1 | refine below_set ?_ GE226.out | refine below_set ?_ GE228.out) | exact HB.out)⟩⟩
          · rw [if_neg c6] at H
            exact absurd H (by simp)
        · rw [if_neg c5] at H
          exact absurd H (by simp)
      · rw [if_neg c4] at H
        have c4b0 : decide (x20_1 < (l0_5.length : Int)) = false := decide_eq_false c4
        clear c4
        obtain rfl := Option.some.inj H
        go_wp2
        go_ret
        exact ⟨by first | rfl | (simp [errW_none, errW_some] <;> rfl) | (simp [*, errW_none, errW_some] <;> rfl), by repeat (first | (with_reducible first | exact HB.out | apply below_alloc | apply pw_below_drewN | apply below_drew1 | refine below_set ?_ GE226.out) | exact HB.out)⟩
end Go.Proofs.YtlmeelmjodjfpaaGreatDoor.PB
end
