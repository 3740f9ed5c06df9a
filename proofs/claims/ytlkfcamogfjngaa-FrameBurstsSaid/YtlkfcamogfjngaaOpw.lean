/- frame.Open, walked: what it returns of any text of at most 2^47 - 4096 bytes is what openP tells; what was there before is left as it was. -/
import Derived.Test.YtlkfcamogfjngaaOp
import Derived.Deep.RegionWith
import Derived.Outline
import Derived.Lib.Hide
namespace Go.Proofs.Ytlkfcamogfjngaa.Op
open Go.RowKit Go.Proofs.Ytlkfcamogfjngaa.PAll Go.Proofs.YtlkfcamogfjngaaW.PrintWords Go.Proofs.YtlkfcamogfjngaaW.PrintLast Go.Proofs.YtlkfcamogfjngaaW.PrintMore
open Fr
set_option linter.unusedVariables false

/-- The post of Open. -/
def OpenPost (v : Nat) (p : ByteArray) (c : Nat) (w : World) (e : Ending) (w' : World) : Prop := e = .returned (.tuple #[.int .u8 v, .string p, .int .i64 c]) ∧ Below w.heap.size w w'
theorem openPost_mk {v : Nat} {p : ByteArray} {c : Nat} {w : World} {e : Ending} {w' : World} (h : e = .returned (.tuple #[.int .u8 v, .string p, .int .i64 c])) (hb : Below w.heap.size w w') : OpenPost v p c w e w' := ⟨h, hb⟩

def OpenPost2 (x c : ByteArray) (v : Nat) (p : ByteArray) (w : World) (e : Ending) (w' : World) : Prop := (x = c ∧ OpenPost v p 0 w e w') ∨ (x ≠ c ∧ OpenPost 0 (tx []) 5 w e w')

section
set_option maxHeartbeats 1000000
set_option maxRecDepth 100000
theorem open_magic (s : ByteArray) (w : World) (h1 : strings_HasPrefix.f s ⟨#[80, 79, 68, 67]⟩ = some false) (h2 : strings_HasPrefix.f ⟨#[80, 79, 68, 67]⟩ s = some false) :
    Calls Try.prog 15 #[.string s] w (OpenPost 0 (tx []) 3 w) := by
  have A1 := Aside0.mk h1; clear h1
  have A2 := Aside0.mk h2; clear h2
  go_enter Try.func15, Try.ntmps15
  go_wp2_with fail
  refine (strings_HasPrefix.calls _ _ false _ A1.out).mono ?_
  rintro e w1 ⟨rfl, ⟨m1, rfl⟩⟩
  go_wp2_with fail
  refine (strings_HasPrefix.calls _ _ false _ A2.out).mono ?_
  rintro e w2 ⟨rfl, ⟨m2, rfl⟩⟩
  go_wp2_with fail
  go_ret3
  exact openPost_mk rfl (by repeat (first | exact Below.refl _ _ | apply pw_below_drewN))
/-- The first test does not end it. -/
def Goes (s : ByteArray) : Prop := strings_HasPrefix.f s ⟨#[80, 79, 68, 67]⟩ = some true ∨ (strings_HasPrefix.f s ⟨#[80, 79, 68, 67]⟩ = some false ∧ strings_HasPrefix.f ⟨#[80, 79, 68, 67]⟩ s = some true)
theorem open_short (s : ByteArray) (w : World) (h : Goes s) (h9 : (s.size : Int) < 9) :
    Calls Try.prog 15 #[.string s] w (OpenPost 0 (tx []) 1 w) := by
  rcases h with h1 | ⟨h1, h2⟩
  · have A1 := Aside0.mk h1; clear h1
    go_enter Try.func15, Try.ntmps15
    go_wp2_with fail
    refine (strings_HasPrefix.calls _ _ true _ A1.out).mono ?_
    rintro e w1 ⟨rfl, ⟨m1, rfl⟩⟩
    go_wp2_with fail
    go_ret3
    exact openPost_mk rfl (by repeat (first | exact Below.refl _ _ | apply pw_below_drewN))
  · have A1 := Aside0.mk h1; clear h1
    have A2 := Aside0.mk h2; clear h2
    go_enter Try.func15, Try.ntmps15
    go_wp2_with fail
    refine (strings_HasPrefix.calls _ _ false _ A1.out).mono ?_
    rintro e w1 ⟨rfl, ⟨m1, rfl⟩⟩
    go_wp2_with fail
    refine (strings_HasPrefix.calls _ _ true _ A2.out).mono ?_
    rintro e w2 ⟨rfl, ⟨m2, rfl⟩⟩
    go_wp2_with fail
    go_ret3
    exact openPost_mk rfl (by repeat (first | exact Below.refl _ _ | apply pw_below_drewN))
theorem open_long (k : Nat) (s : ByteArray) (w : World) (v n : Int) (r1 r2 : ByteArray) (f1 f2 : Int) (h1 : strings_HasPrefix.f s ⟨#[80, 79, 68, 67]⟩ = some true) (h9 : 9 ≤ (s.size : Int))
    (T1 : pack_Taker_Take.f k (s.extract 4 s.size) 0 1 = some (v, r1, f1)) (T2 : pack_Taker_Take.f k r1 f1 4 = some (n, r2, f2)) (hn : 4194304 < n) :
    Calls Try.prog 15 #[.string s] w (OpenPost 0 (tx []) 2 w) := by
  have A1 := Aside0.mk h1; clear h1
  have B1 := Aside0.mk T1; clear T1
  have B2 := Aside0.mk T2; clear T2
  go_enter Try.func15, Try.ntmps15
  go_wp2_with fail
  refine (strings_HasPrefix.calls _ _ true _ A1.out).mono ?_
  rintro e w1 ⟨rfl, ⟨m1, rfl⟩⟩
  go_wp2_with fail
  have HI := Aside0.mk (IsS48.new w (w.drewN m1) (s.extract 4 s.size) 0 (pw_below_drewN (Below.refl _ _) m1))
  have HB1 := Aside0.mk (below_alloc (pw_below_drewN (Below.refl w.heap.size w) m1) (.cells #[.string (s.extract 4 s.size), .int .i64 0] 48))
  refine (pack_Taker_Take.calls k _ (s.extract 4 s.size) 0 1 v r1 f1 w _ HI.out HB1.out B1.out).mono ?_
  rintro e w2 ⟨rfl, hI, hB, hK⟩
  clear HI HB1 hK
  have HI := Aside0.mk hI
  have HB1 := Aside0.mk hB
  clear hI hB
  go_wp2_with fail
  refine (pack_Taker_Take.calls k _ r1 f1 4 n r2 f2 w _ HI.out HB1.out B2.out).mono ?_
  rintro e w3 ⟨rfl, hI, hB, hK⟩
  clear HI HB1 hK hI
  have HB1 := Aside0.mk hB
  clear hB
  go_wp2_with fail
  go_ret3
  exact openPost_mk rfl HB1.out
theorem open_less (k : Nat) (s : ByteArray) (w : World) (v n : Int) (r1 r2 : ByteArray) (f1 f2 : Int) (h1 : strings_HasPrefix.f s ⟨#[80, 79, 68, 67]⟩ = some true) (h9 : 9 ≤ (s.size : Int)) (hs : s.size ≤ 140737488351232)
    (T1 : pack_Taker_Take.f k (s.extract 4 s.size) 0 1 = some (v, r1, f1)) (T2 : pack_Taker_Take.f k r1 f1 4 = some (n, r2, f2)) (hn0 : 0 ≤ n) (hn : n ≤ 4194304) (hl : (s.size : Int) < 9 + n + 4) :
    Calls Try.prog 15 #[.string s] w (OpenPost 0 (tx []) 1 w) := by
  have A1 := Aside0.mk h1; clear h1
  have B1 := Aside0.mk T1; clear T1
  have B2 := Aside0.mk T2; clear T2
  go_enter Try.func15, Try.ntmps15
  go_wp2_with fail
  refine (strings_HasPrefix.calls _ _ true _ A1.out).mono ?_
  rintro e w1 ⟨rfl, ⟨m1, rfl⟩⟩
  go_wp2_with fail
  have HI := Aside0.mk (IsS48.new w (w.drewN m1) (s.extract 4 s.size) 0 (pw_below_drewN (Below.refl _ _) m1))
  have HB1 := Aside0.mk (below_alloc (pw_below_drewN (Below.refl w.heap.size w) m1) (.cells #[.string (s.extract 4 s.size), .int .i64 0] 48))
  refine (pack_Taker_Take.calls k _ (s.extract 4 s.size) 0 1 v r1 f1 w _ HI.out HB1.out B1.out).mono ?_
  rintro e w2 ⟨rfl, hI, hB, hK⟩
  clear HI HB1 hK
  have HI := Aside0.mk hI
  have HB1 := Aside0.mk hB
  clear hI hB
  go_wp2_with fail
  refine (pack_Taker_Take.calls k _ r1 f1 4 n r2 f2 w _ HI.out HB1.out B2.out).mono ?_
  rintro e w3 ⟨rfl, hI, hB, hK⟩
  clear HI HB1 hK hI
  have HB1 := Aside0.mk hB
  clear hB
  go_wp2_with fail
  go_ret3
  exact openPost_mk rfl HB1.out
theorem open_more (k : Nat) (s : ByteArray) (w : World) (v n : Int) (r1 r2 : ByteArray) (f1 f2 : Int) (h1 : strings_HasPrefix.f s ⟨#[80, 79, 68, 67]⟩ = some true) (h9 : 9 ≤ (s.size : Int)) (hs : s.size ≤ 140737488351232)
    (T1 : pack_Taker_Take.f k (s.extract 4 s.size) 0 1 = some (v, r1, f1)) (T2 : pack_Taker_Take.f k r1 f1 4 = some (n, r2, f2)) (hn0 : 0 ≤ n) (hn : n ≤ 4194304) (hl : 9 + n + 4 < (s.size : Int)) :
    Calls Try.prog 15 #[.string s] w (OpenPost 0 (tx []) 6 w) := by
  have A1 := Aside0.mk h1; clear h1
  have B1 := Aside0.mk T1; clear T1
  have B2 := Aside0.mk T2; clear T2
  go_enter Try.func15, Try.ntmps15
  go_wp2_with fail
  refine (strings_HasPrefix.calls _ _ true _ A1.out).mono ?_
  rintro e w1 ⟨rfl, ⟨m1, rfl⟩⟩
  go_wp2_with fail
  have HI := Aside0.mk (IsS48.new w (w.drewN m1) (s.extract 4 s.size) 0 (pw_below_drewN (Below.refl _ _) m1))
  have HB1 := Aside0.mk (below_alloc (pw_below_drewN (Below.refl w.heap.size w) m1) (.cells #[.string (s.extract 4 s.size), .int .i64 0] 48))
  refine (pack_Taker_Take.calls k _ (s.extract 4 s.size) 0 1 v r1 f1 w _ HI.out HB1.out B1.out).mono ?_
  rintro e w2 ⟨rfl, hI, hB, hK⟩
  clear HI HB1 hK
  have HI := Aside0.mk hI
  have HB1 := Aside0.mk hB
  clear hI hB
  go_wp2_with fail
  refine (pack_Taker_Take.calls k _ r1 f1 4 n r2 f2 w _ HI.out HB1.out B2.out).mono ?_
  rintro e w3 ⟨rfl, hI, hB, hK⟩
  clear HI HB1 hK hI
  have HB1 := Aside0.mk hB
  clear hB
  go_wp2_with fail
  go_ret3
  exact openPost_mk rfl HB1.out
theorem open_same (k : Nat) (s : ByteArray) (w : World) (v n : Int) (r1 r2 : ByteArray) (f1 f2 : Int) (h1 : strings_HasPrefix.f s ⟨#[80, 79, 68, 67]⟩ = some true) (h9 : 9 ≤ (s.size : Int)) (hs : s.size ≤ 140737488351232)
    (T1 : pack_Taker_Take.f k (s.extract 4 s.size) 0 1 = some (v, r1, f1)) (T2 : pack_Taker_Take.f k r1 f1 4 = some (n, r2, f2)) (hn0 : 0 ≤ n) (hn : n ≤ 4194304) (hl : 9 + n + 4 = (s.size : Int))
    (c : ByteArray) (hc : frame_sum.f k (s.extract 4 (n.toNat + 9)) = some c) (hv0 : 0 ≤ v) (hv : v ≤ 255) :
    Calls Try.prog 15 #[.string s] w (OpenPost2 (s.extract (n.toNat + 9) s.size) c v.toNat (s.extract 9 (n.toNat + 9)) w) := by
  have A1 := Aside0.mk h1; clear h1
  have B1 := Aside0.mk T1; clear T1
  have B2 := Aside0.mk T2; clear T2
  have C1 := Aside0.mk hc; clear hc
  have hl1 : 9 + n + 4 ≤ (s.size : Int) := by omega
  have hl2 : (s.size : Int) ≤ 9 + n + 4 := by omega
  clear hl
  go_enter Try.func15, Try.ntmps15
  go_wp2_with fail
  refine (strings_HasPrefix.calls _ _ true _ A1.out).mono ?_
  rintro e w1 ⟨rfl, ⟨m1, rfl⟩⟩
  go_wp2_with fail
  have HI := Aside0.mk (IsS48.new w (w.drewN m1) (s.extract 4 s.size) 0 (pw_below_drewN (Below.refl _ _) m1))
  have HB1 := Aside0.mk (below_alloc (pw_below_drewN (Below.refl w.heap.size w) m1) (.cells #[.string (s.extract 4 s.size), .int .i64 0] 48))
  refine (pack_Taker_Take.calls k _ (s.extract 4 s.size) 0 1 v r1 f1 w _ HI.out HB1.out B1.out).mono ?_
  rintro e w2 ⟨rfl, hI, hB, hK⟩
  clear HI HB1 hK
  have HI := Aside0.mk hI
  have HB1 := Aside0.mk hB
  clear hI hB
  go_wp2_with fail
  refine (pack_Taker_Take.calls k _ r1 f1 4 n r2 f2 w _ HI.out HB1.out B2.out).mono ?_
  rintro e w3 ⟨rfl, hI, hB, hK⟩
  clear HI HB1 hK hI
  have HB1 := Aside0.mk hB
  clear hB
  go_wp2_with fail
  have e1 : IntKind.u64.wrap (9 + n) = 9 + n := by rw [IntWalk.u64_in _ (by omega)]
  have e2 : (0 ≤ 9 + n) = True := eq_true (by omega)
  have e3 : (9 + n ≤ (s.size : Int)) = True := eq_true (by omega)
  have e4 : (4 ≤ 9 + n) = True := eq_true (by omega)
  have e5 : (9 + n).toNat = n.toNat + 9 := by omega
  go_region_with (go_at_call 19; (with_reducible refine (frame_sum.calls k _ c _ C1.out).mono ?_); rintro e w4 ⟨rfl, hb⟩)
  have HB2 := Aside0.mk (below_step (below_drew1 HB1.out) hb)
  clear hb HB1
  have e6 : (9 ≤ 9 + n) = True := eq_true (by omega)
  have e7 : (v.toNat : Int) = v := by omega
  have e8 := Lib.hid e7
  clear e7
  go_wp2_with fail
  · have hq : (!(s.extract (n.toNat + 9) s.size).toList == c.toList) = true := by assumption
    have hne : s.extract (n.toNat + 9) s.size ≠ c := by
      intro h
      rw [h] at hq
      simp at hq
    have hq1 := Lib.hid hne
    clear hq hne
    go_ret3
    exact .inr ⟨hq1.out, openPost_mk rfl (by repeat (first | exact HB2.out | apply pw_below_drewN | apply below_drew1))⟩
  · have hq : (!(s.extract (n.toNat + 9) s.size).toList == c.toList) = false := by assumption
    have heq : s.extract (n.toNat + 9) s.size = c := Crc.eq_toList.mp (by simpa using hq)
    have hq1 := Lib.hid heq
    clear hq heq
    go_quiet (fail)
    go_wp2_with fail
    go_ret3
    exact .inl ⟨hq1.out, openPost_mk (by rw [e8.out]; rfl) (by repeat (first | exact HB2.out | apply pw_below_drewN | apply below_drew1))⟩
end

theorem goes_of (s : ByteArray) (h : s.data.toList.take 4 = magic.take s.data.toList.length) : Goes s := by
  have hlen := len_list s
  unfold Goes
  rw [prefix_tells, prefix_tells]
  by_cases h4 : 4 ≤ s.size
  · left
    have hm : magic.take s.data.toList.length = magic := List.take_of_length_le (by rw [hlen]; exact h4)
    rw [hm] at h
    congr 1
    exact decide_eq_true ⟨by rw [hlen]; exact h4, h⟩
  · right
    have ht : s.data.toList.take 4 = s.data.toList := List.take_of_length_le (by omega)
    rw [ht] at h
    constructor
    · congr 1
      exact decide_eq_false (fun hh => h4 (by have := hh.1; rw [hlen] at this; exact this))
    · congr 1
      exact decide_eq_true ⟨by rw [hlen]; show s.size ≤ 4; omega, h.symm⟩
theorem not_goes (s : ByteArray) (h : ¬ s.data.toList.take 4 = magic.take s.data.toList.length) : strings_HasPrefix.f s ⟨#[80, 79, 68, 67]⟩ = some false ∧ strings_HasPrefix.f ⟨#[80, 79, 68, 67]⟩ s = some false := by
  have hlen := len_list s
  rw [prefix_tells, prefix_tells]
  constructor
  · congr 1
    apply decide_eq_false
    rintro ⟨h1, h2⟩
    apply h
    have hm : magic.take s.data.toList.length = magic := List.take_of_length_le h1
    rw [hm]
    exact h2
  · congr 1
    apply decide_eq_false
    rintro ⟨h1, h2⟩
    apply h
    have ht : s.data.toList.take 4 = s.data.toList := List.take_of_length_le h1
    rw [ht]
    exact h2.symm
theorem yes_of (s : ByteArray) (h : s.data.toList.take 4 = magic.take s.data.toList.length) (h9 : 9 ≤ s.size) : strings_HasPrefix.f s ⟨#[80, 79, 68, 67]⟩ = some true := by
  have hlen := len_list s
  rw [prefix_tells]
  have hm : magic.take s.data.toList.length = magic := List.take_of_length_le (by rw [hlen]; show 4 ≤ s.size; omega)
  rw [hm] at h
  congr 1
  exact decide_eq_true ⟨by rw [hlen]; show 4 ≤ s.size; omega, h⟩
theorem num_one (a : UInt8) : num [a] = a.toNat := by
  unfold num numF
  simp only [List.foldl_cons, List.foldl_nil, Nat.zero_mul, Nat.zero_add]

/-- frame.Open: what openP tells. -/
theorem open_calls (s : ByteArray) (hs : s.size ≤ 140737488351232) (w : World) :
    Calls Try.prog 15 #[.string s] w (OpenPost (openP s.data.toList).1 (tx (openP s.data.toList).2.1) (openP s.data.toList).2.2 w) := by
  have hlen := len_list s
  by_cases hm : s.data.toList.take 4 = magic.take s.data.toList.length
  · by_cases h9 : s.size < 9
    · have ho : openP s.data.toList = (0, [], 1) := by unfold openP; rw [if_pos hm, if_pos (by omega)]
      rw [ho]
      exact open_short s w (goes_of s hm) (by omega)
    have h1 := yes_of s hm (by omega)
    obtain ⟨k, hk⟩ : ∃ k, k = 10 * s.size + 200 := ⟨_, rfl⟩
    obtain ⟨a0, a1, a2, a3, a4, a5, a6, a7, a8, r, hl⟩ := nine s.data.toList (by omega)
    have hll : s.size = r.length + 9 := by rw [← hlen, hl]; rfl
    have z1 : (s.extract 4 s.size).size = s.size - 4 := by rw [ByteArray.size_extract]; omega
    have T1 := take_tells 1 (s.extract 4 s.size) k (by omega) (by omega) (by omega)
    have z2 : ((s.extract 4 s.size).extract 1 (s.extract 4 s.size).size).size = s.size - 5 := by rw [ByteArray.size_extract]; omega
    have T2 := take_tells 4 ((s.extract 4 s.size).extract 1 (s.extract 4 s.size).size) k (by omega) (by omega) (by omega)
    have l1 : (s.extract 4 s.size).data.toList.take 1 = [a4] := by rw [Crc.ext_drop, hl]; rfl
    have l2 : ((s.extract 4 s.size).extract 1 (s.extract 4 s.size).size).data.toList.take 4 = [a5, a6, a7, a8] := by rw [Crc.ext_drop, Crc.ext_drop, hl]; rfl
    rw [l1, num_one] at T1
    rw [l2] at T2
    have hd : num ((s.data.toList.drop 5).take 4) = num [a5, a6, a7, a8] := by rw [hl]; rfl
    have hN : num [a5, a6, a7, a8] < 256 ^ 4 := num_lt [a5, a6, a7, a8]
    rw [show (256 : Nat) ^ 4 = 4294967296 from by decide] at hN
    generalize num [a5, a6, a7, a8] = n at *
    generalize ((s.extract 4 s.size).extract 1 (s.extract 4 s.size).size) = r1 at *
    generalize r1.extract 4 r1.size = r2 at *
    by_cases q1 : 4194304 < n
    · have ho : openP s.data.toList = (0, [], 2) := by unfold openP; rw [if_pos hm, if_neg (by omega), hd, if_pos q1]
      rw [ho]
      exact open_long k s w _ _ _ _ _ _ h1 (by omega) T1 T2 (by omega)
    by_cases q2 : s.size < n + 13
    · have ho : openP s.data.toList = (0, [], 1) := by unfold openP; rw [if_pos hm, if_neg (by omega), hd, if_neg q1, if_pos (by omega)]
      rw [ho]
      exact open_less k s w _ _ _ _ _ _ h1 (by omega) hs T1 T2 (by omega) (by omega) (by omega)
    by_cases q3 : n + 13 < s.size
    · have ho : openP s.data.toList = (0, [], 6) := by unfold openP; rw [if_pos hm, if_neg (by omega), hd, if_neg q1, if_neg (by omega), if_pos (by omega)]
      rw [ho]
      exact open_more k s w _ _ _ _ _ _ h1 (by omega) hs T1 T2 (by omega) (by omega) (by omega)
    have hbody : (s.extract 4 (n + 9)).data.toList = (s.data.toList.drop 4).take (n + 5) := by
      rw [Crc.ext_mid, List.drop_take]
      rfl
    have hbl : ((s.data.toList.drop 4).take (n + 5)).length = n + 5 := by rw [List.length_take, List.length_drop]; omega
    have hsum := sum_tells k ((s.data.toList.drop 4).take (n + 5)) (by omega) (by omega)
    rw [← hbody, tx_of] at hsum
    have a4l := a4.toNat_lt
    have hO := open_same k s w _ _ _ _ _ _ h1 (by omega) hs T1 T2 (by omega) (by omega) (by omega) _ (by rw [Int.toNat_natCast]; exact hsum) (by omega) (by omega)
    rw [Int.toNat_natCast, Int.toNat_natCast, hbody] at hO
    refine hO.mono ?_
    have g4 : s.data.toList.getD 4 0 = a4 := by rw [hl]; rfl
    have hcut : s.extract (n + 9) s.size = tx (s.data.toList.drop (n + 9)) := Crc.eq_list (by rw [Crc.ext_drop]; rfl)
    have hpay : s.extract 9 (n + 9) = tx ((s.data.toList.drop 9).take n) := Crc.eq_list (by rw [Crc.ext_mid, List.drop_take]; rfl)
    rintro e w' (⟨h, hp⟩ | ⟨h, hp⟩)
    · have q4 : s.data.toList.drop (n + 9) = be4 (Crc.sum ((s.data.toList.drop 4).take (n + 5))).toNat := by
        rw [hcut] at h
        have := congrArg (fun x : ByteArray => x.data.toList) h
        exact this
      have ho : openP s.data.toList = (a4.toNat, (s.data.toList.drop 9).take n, 0) := by
        unfold openP
        rw [if_pos hm, if_neg (by omega), hd, if_neg q1, if_neg (by omega), if_neg (by omega), if_pos q4, g4]
      rw [ho, ← hpay]
      exact hp
    · have q4 : ¬ s.data.toList.drop (n + 9) = be4 (Crc.sum ((s.data.toList.drop 4).take (n + 5))).toNat := by
        intro h2
        rw [hcut, h2] at h
        exact h rfl
      have ho : openP s.data.toList = (0, [], 5) := by
        unfold openP
        rw [if_pos hm, if_neg (by omega), hd, if_neg q1, if_neg (by omega), if_neg (by omega), if_neg q4]
      rw [ho]
      exact hp
  · have ho : openP s.data.toList = (0, [], 3) := by unfold openP; rw [if_neg hm]
    rw [ho]
    obtain ⟨h1, h2⟩ := not_goes s hm
    exact open_magic s w h1 h2
end Go.Proofs.Ytlkfcamogfjngaa.Op
