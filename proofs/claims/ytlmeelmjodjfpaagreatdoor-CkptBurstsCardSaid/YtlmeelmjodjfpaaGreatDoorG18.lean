/- CkptBursts, part 19 of 24 of its proof: for every input that meets the row's condition (laid, tied) the call returns true and each argument reads behind it as before. -/
import Derived.Test.YtlmeelmjodjfpaaGreatDoorG12
import Derived.Deep.RegionWith
import Derived.Outline
import Derived.Lib.Hide
import Derived.Test.YtlmeelmjodjfpaaGreatDoorG15
section
namespace Go.Proofs.YtlmeelmjodjfpaaGreatDoor.Op
open Go.RowKit Go.Proofs.YtlmeelmjodjfpaaGreatDoor.PB Go.Proofs.YtlmeelmjodjfpaaGreatDoorW.PrintWords Go.Proofs.YtlmeelmjodjfpaaGreatDoorW.PrintLast Go.Proofs.YtlmeelmjodjfpaaGreatDoorW.PrintMore
open Fr
set_option linter.unusedVariables false
/-- The post of Open. -/
def OpenPost (v : Nat) (p : ByteArray) (c : Nat) (w : World) (e : Ending) (w' : World) : Prop := e = .returned (.tuple #[.int .u8 v, .string p, .int .i64 c]) ∧ Below w.heap.size w w'
theorem openPost_mk {v : Nat} {p : ByteArray} {c : Nat} {w : World} {e : Ending} {w' : World} (h : e = .returned (.tuple #[.int .u8 v, .string p, .int .i64 c])) (hb : Below w.heap.size w w') : OpenPost v p c w e w' := ⟨h, hb⟩
def OpenPost2 (x c : ByteArray) (v : Nat) (p : ByteArray) (w : World) (e : Ending) (w' : World) : Prop := (x = c ∧ OpenPost v p 0 w e w') ∨ (x ≠ c ∧ OpenPost 0 (tx []) 5 w e w')
section
set_option maxHeartbeats 1000000
set_option maxRecDepth 100000
theorem open_magic (s : ByteArray) (w : World) (h1 : strings_HasPrefix.f s ⟨#[80, 79, 68, 67]⟩ = some false) (h2 : strings_HasPrefix.f ⟨#[80, 79, 68, 67]⟩ s = some false) :
    Calls Tryz.prog 17 #[.string s] w (OpenPost 0 (tx []) 3 w) := by
  have A1 := Aside0.mk h1; clear h1
  have A2 := Aside0.mk h2; clear h2
  go_enter Tryz.func17, Tryz.ntmps17
  go_wp2_with fail
  refine (strings_HasPrefix.calls _ _ false _ A1.out).mono ?_
  rintro e w1 ⟨rfl, ⟨m1, rfl⟩⟩
  go_wp2_with fail
  refine (strings_HasPrefix.calls _ _ false _ A2.out).mono ?_
  rintro e w2 ⟨rfl, ⟨m2, rfl⟩⟩
  go_wp2_with fail
  go_ret3
  exact openPost_mk rfl (by repeat (first | exact Below.refl _ _ | apply pw_below_drewN))
/-- The first test does not end it. -/
def Goes (s : ByteArray) : Prop := strings_HasPrefix.f s ⟨#[80, 79, 68, 67]⟩ = some true ∨ (strings_HasPrefix.f s ⟨#[80, 79, 68, 67]⟩ = some false ∧ strings_HasPrefix.f ⟨#[80, 79, 68, 67]⟩ s = some true)
theorem open_short (s : ByteArray) (w : World) (h : Goes s) (h9 : (s.size : Int) < 9) :
    Calls Tryz.prog 17 #[.string s] w (OpenPost 0 (tx []) 1 w) := by
  rcases h with h1 | ⟨h1, h2⟩
  · have A1 := Aside0.mk h1; clear h1
    go_enter Tryz.func17, Tryz.ntmps17
    go_wp2_with fail
    refine (strings_HasPrefix.calls _ _ true _ A1.out).mono ?_
    rintro e w1 ⟨rfl, ⟨m1, rfl⟩⟩
    go_wp2_with fail
    go_ret3
    exact openPost_mk rfl (by repeat (first | exact Below.refl _ _ | apply pw_below_drewN))
  · have A1 := Aside0.mk h1; clear h1
    have A2 := Aside0.mk h2; clear h2
    go_enter Tryz.func17, Tryz.ntmps17
    go_wp2_with fail
    refine (strings_HasPrefix.calls _ _ false _ A1.out).mono ?_
    rintro e w1 ⟨rfl, ⟨m1, rfl⟩⟩
    go_wp2_with fail
    refine (strings_HasPrefix.calls _ _ true _ A2.out).mono ?_
    rintro e w2 ⟨rfl, ⟨m2, rfl⟩⟩
    go_wp2_with fail
    go_ret3
    exact openPost_mk rfl (by repeat (first | exact Below.refl _ _ | apply pw_below_drewN))
theorem open_long (k : Nat) (s : ByteArray) (w : World) (v n : Int) (r1 r2 : ByteArray) (f1 f2 : Int) (h1 : strings_HasPrefix.f s ⟨#[80, 79, 68, 67]⟩ = some true) (h9 : 9 ≤ (s.size : Int))
    (T1 : pack_Taker_Take.f k (s.extract 4 s.size) 0 1 = some (v, r1, f1)) (T2 : pack_Taker_Take.f k r1 f1 4 = some (n, r2, f2)) (hn : 4194304 < n) :
    Calls Tryz.prog 17 #[.string s] w (OpenPost 0 (tx []) 2 w) := by
  have A1 := Aside0.mk h1; clear h1
  have B1 := Aside0.mk T1; clear T1
  have B2 := Aside0.mk T2; clear T2
  go_enter Tryz.func17, Tryz.ntmps17
  go_wp2_with fail
  refine (strings_HasPrefix.calls _ _ true _ A1.out).mono ?_
  rintro e w1 ⟨rfl, ⟨m1, rfl⟩⟩
  go_wp2_with fail
  have HI := Aside0.mk (IsS108.new w (w.drewN m1) (s.extract 4 s.size) 0 (pw_below_drewN (Below.refl _ _) m1))
  have HB1 := Aside0.mk (below_alloc (pw_below_drewN (Below.refl w.heap.size w) m1) (.cells #[.string (s.extract 4 s.size), .int .i64 0] 108))
  refine (pack_Taker_Take.calls k _ (s.extract 4 s.size) 0 1 v r1 f1 w _ HI.out HB1.out B1.out).mono ?_
  rintro e w2 ⟨rfl, hI, hB, hK⟩
  clear HI HB1 hK
  have HI := Aside0.mk hI
  have HB1 := Aside0.mk hB
  clear hI hB
  go_wp2_with fail
  refine (pack_Taker_Take.calls k _ r1 f1 4 n r2 f2 w _ HI.out HB1.out B2.out).mono ?_
  rintro e w3 ⟨rfl, hI, hB, hK⟩
  clear HI HB1 hK hI
  have HB1 := Aside0.mk hB
  clear hB
  go_wp2_with fail
  go_ret3
  exact openPost_mk rfl HB1.out
theorem open_less (k : Nat) (s : ByteArray) (w : World) (v n : Int) (r1 r2 : ByteArray) (f1 f2 : Int) (h1 : strings_HasPrefix.f s ⟨#[80, 79, 68, 67]⟩ = some true) (h9 : 9 ≤ (s.size : Int)) (hs : s.size ≤ 140737488351232)
    (T1 : pack_Taker_Take.f k (s.extract 4 s.size) 0 1 = some (v, r1, f1)) (T2 : pack_Taker_Take.f k r1 f1 4 = some (n, r2, f2)) (hn0 : 0 ≤ n) (hn : n ≤ 4194304) (hl : (s.size : Int) < 9 + n + 4) :
    Calls Tryz.prog 17 #[.string s] w (OpenPost 0 (tx []) 1 w) := by
  have A1 := Aside0.mk h1; clear h1
  have B1 := Aside0.mk T1; clear T1
  have B2 := Aside0.mk T2; clear T2
  go_enter Tryz.func17, Tryz.ntmps17
  go_wp2_with fail
  refine (strings_HasPrefix.calls _ _ true _ A1.out).mono ?_
  rintro e w1 ⟨rfl, ⟨m1, rfl⟩⟩
  go_wp2_with fail
  have HI := Aside0.mk (IsS108.new w (w.drewN m1) (s.extract 4 s.size) 0 (pw_below_drewN (Below.refl _ _) m1))
  have HB1 := Aside0.mk (below_alloc (pw_below_drewN (Below.refl w.heap.size w) m1) (.cells #[.string (s.extract 4 s.size), .int .i64 0] 108))
  refine (pack_Taker_Take.calls k _ (s.extract 4 s.size) 0 1 v r1 f1 w _ HI.out HB1.out B1.out).mono ?_
  rintro e w2 ⟨rfl, hI, hB, hK⟩
  clear HI HB1 hK
  have HI := Aside0.mk hI
  have HB1 := Aside0.mk hB
  clear hI hB
  go_wp2_with fail
  refine (pack_Taker_Take.calls k _ r1 f1 4 n r2 f2 w _ HI.out HB1.out B2.out).mono ?_
  rintro e w3 ⟨rfl, hI, hB, hK⟩
  clear HI HB1 hK hI
  have HB1 := Aside0.mk hB
  clear hB
  go_wp2_with fail
  go_ret3
  exact openPost_mk rfl HB1.out
theorem open_more (k : Nat) (s : ByteArray) (w : World) (v n : Int) (r1 r2 : ByteArray) (f1 f2 : Int) (h1 : strings_HasPrefix.f s ⟨#[80, 79, 68, 67]⟩ = some true) (h9 : 9 ≤ (s.size : Int)) (hs : s.size ≤ 140737488351232)
    (T1 : pack_Taker_Take.f k (s.extract 4 s.size) 0 1 = some (v, r1, f1)) (T2 : pack_Taker_Take.f k r1 f1 4 = some (n, r2, f2)) (hn0 : 0 ≤ n) (hn : n ≤ 4194304) (hl : 9 + n + 4 < (s.size : Int)) :
    Calls Tryz.prog 17 #[.string s] w (OpenPost 0 (tx []) 6 w) := by
  have A1 := Aside0.mk h1; clear h1
  have B1 := Aside0.mk T1; clear T1
  have B2 := Aside0.mk T2; clear T2
  go_enter Tryz.func17, Tryz.ntmps17
  go_wp2_with fail
  refine (strings_HasPrefix.calls _ _ true _ A1.out).mono ?_
  rintro e w1 ⟨rfl, ⟨m1, rfl⟩⟩
  go_wp2_with fail
  have HI := Aside0.mk (IsS108.new w (w.drewN m1) (s.extract 4 s.size) 0 (pw_below_drewN (Below.refl _ _) m1))
  have HB1 := Aside0.mk (below_alloc (pw_below_drewN (Below.refl w.heap.size w) m1) (.cells #[.string (s.extract 4 s.size), .int .i64 0] 108))
  refine (pack_Taker_Take.calls k _ (s.extract 4 s.size) 0 1 v r1 f1 w _ HI.out HB1.out B1.out).mono ?_
  rintro e w2 ⟨rfl, hI, hB, hK⟩
  clear HI HB1 hK
  have HI := Aside0.mk hI
  have HB1 := Aside0.mk hB
  clear hI hB
  go_wp2_with fail
  refine (pack_Taker_Take.calls k _ r1 f1 4 n r2 f2 w _ HI.out HB1.out B2.out).mono ?_
  rintro e w3 ⟨rfl, hI, hB, hK⟩
  clear HI HB1 hK hI
  have HB1 := Aside0.mk hB
  clear hB
  go_wp2_with fail
  go_ret3
  exact openPost_mk rfl HB1.out
theorem open_same (k : Nat) (s : ByteArray) (w : World) (v n : Int) (r1 r2 : ByteArray) (f1 f2 : Int) (h1 : strings_HasPrefix.f s ⟨#[80, 79, 68, 67]⟩ = some true) (h9 : 9 ≤ (s.size : Int)) (hs : s.size ≤ 140737488351232)
    (T1 : pack_Taker_Take.f k (s.extract 4 s.size) 0 1 = some (v, r1, f1)) (T2 : pack_Taker_Take.f k r1 f1 4 = some (n, r2, f2)) (hn0 : 0 ≤ n) (hn : n ≤ 4194304) (hl : 9 + n + 4 = (s.size : Int))
    (c : ByteArray) (hc : frame_sum.f k (s.extract 4 (n.toNat + 9)) = some c) (hv0 : 0 ≤ v) (hv : v ≤ 255) :
    Calls Tryz.prog 17 #[.string s] w (OpenPost2 (s.extract (n.toNat + 9) s.size) c v.toNat (s.extract 9 (n.toNat + 9)) w) := by
  have A1 := Aside0.mk h1; clear h1
  have B1 := Aside0.mk T1; clear T1
  have B2 := Aside0.mk T2; clear T2
  have C1 := Aside0.mk hc; clear hc
  have hl1 : 9 + n + 4 ≤ (s.size : Int) := by omega
  have hl2 : (s.size : Int) ≤ 9 + n + 4 := by omega
  clear hl
  go_enter Tryz.func17, Tryz.ntmps17
  go_wp2_with fail
  refine (strings_HasPrefix.calls _ _ true _ A1.out).mono ?_
  rintro e w1 ⟨rfl, ⟨m1, rfl⟩⟩
  go_wp2_with fail
  have HI := Aside0.mk (IsS108.new w (w.drewN m1) (s.extract 4 s.size) 0 (pw_below_drewN (Below.refl _ _) m1))
  have HB1 := Aside0.mk (below_alloc (pw_below_drewN (Below.refl w.heap.size w) m1) (.cells #[.string (s.extract 4 s.size), .int .i64 0] 108))
  refine (pack_Taker_Take.calls k _ (s.extract 4 s.size) 0 1 v r1 f1 w _ HI.out HB1.out B1.out).mono ?_
  rintro e w2 ⟨rfl, hI, hB, hK⟩
  clear HI HB1 hK
  have HI := Aside0.mk hI
  have HB1 := Aside0.mk hB
  clear hI hB
  go_wp2_with fail
  refine (pack_Taker_Take.calls k _ r1 f1 4 n r2 f2 w _ HI.out HB1.out B2.out).mono ?_
  rintro e w3 ⟨rfl, hI, hB, hK⟩
  clear HI HB1 hK hI
  have HB1 := Aside0.mk hB
  clear hB
  go_wp2_with fail
  have e1 : IntKind.u64.wrap (9 + n) = 9 + n := by rw [IntWalk.u64_in _ (by omega)]
  have e2 : (0 ≤ 9 + n) = True := eq_true (by omega)
  have e3 : (9 + n ≤ (s.size : Int)) = True := eq_true (by omega)
  have e4 : (4 ≤ 9 + n) = True := eq_true (by omega)
  have e5 : (9 + n).toNat = n.toNat + 9 := by omega
  go_region_with (go_at_call 45; (with_reducible refine (frame_sum.calls k _ c _ C1.out).mono ?_); rintro e w4 ⟨rfl, hb⟩)
  have HB2 := Aside0.mk (below_step (below_drew1 HB1.out) hb)
  clear hb HB1
  have e6 : (9 ≤ 9 + n) = True := eq_true (by omega)
  have e7 : (v.toNat : Int) = v := by omega
  have e8 := Lib.hid e7
  clear e7
  go_wp2_with fail
  · have hq : (!(s.extract (n.toNat + 9) s.size).toList == c.toList) = true := by assumption
    have hne : s.extract (n.toNat + 9) s.size ≠ c := by
      intro h
      rw [h] at hq
      simp at hq
    have hq1 := Lib.hid hne
    clear hq hne
    go_ret3
    exact .inr ⟨hq1.out, openPost_mk rfl (by repeat (first | exact HB2.out | apply pw_below_drewN | apply below_drew1))⟩
  · have hq : (!(s.extract (n.toNat + 9) s.size).toList == c.toList) = false := by assumption
    have heq : s.extract (n.toNat + 9) s.size = c := Crc.eq_toList.mp (by simpa using hq)
    have hq1 := Lib.hid heq
    clear hq heq
    go_quiet (fail)
    go_wp2_with fail
    go_ret3
    exact .inl ⟨hq1.out, openPost_mk (by rw [e8.out]; rfl) (by repeat (first | exact HB2.out | apply pw_below_drewN | apply below_drew1))⟩
end
theorem goes_of (s : ByteArray) (h : s.data.toList.take 4 = magic.take s.data.toList.length) : Goes s := by
  have hlen := len_list s
  unfold Goes
  rw [prefix_tells, prefix_tells]
  by_cases h4 : 4 ≤ s.size
  · left
    have hm : magic.take s.data.toList.length = magic := List.take_of_length_le (by rw [hlen]; exact h4)
    rw [hm] at h
    congr 1
    exact decide_eq_true ⟨by rw [hlen]; exact h4, h⟩
  · right
    have ht : s.data.toList.take 4 = s.data.toList := List.take_of_length_le (by omega)
    rw [ht] at h
    constructor
    · congr 1
      exact decide_eq_false (fun hh => h4 (by have := hh.1; rw [hlen] at this; exact this))
    · congr 1
      exact decide_eq_true ⟨by rw [hlen]; show s.size ≤ 4; omega, h.symm⟩
theorem not_goes (s : ByteArray) (h : ¬ s.data.toList.take 4 = magic.take s.data.toList.length) : strings_HasPrefix.f s ⟨#[80, 79, 68, 67]⟩ = some false ∧ strings_HasPrefix.f ⟨#[80, 79, 68, 67]⟩ s = some false := by
  have hlen := len_list s
  rw [prefix_tells, prefix_tells]
  constructor
  · congr 1
    apply decide_eq_false
    rintro ⟨h1, h2⟩
    apply h
    have hm : magic.take s.data.toList.length = magic := List.take_of_length_le h1
    rw [hm]
    exact h2
  · congr 1
    apply decide_eq_false
    rintro ⟨h1, h2⟩
    apply h
    have ht : s.data.toList.take 4 = s.data.toList := List.take_of_length_le h1
    rw [ht]
    exact h2.symm
theorem yes_of (s : ByteArray) (h : s.data.toList.take 4 = magic.take s.data.toList.length) (h9 : 9 ≤ s.size) : strings_HasPrefix.f s ⟨#[80, 79, 68, 67]⟩ = some true := by
  have hlen := len_list s
  rw [prefix_tells]
  have hm : magic.take s.data.toList.length = magic := List.take_of_length_le (by rw [hlen]; show 4 ≤ s.size; omega)
  rw [hm] at h
  congr 1
  exact decide_eq_true ⟨by rw [hlen]; show 4 ≤ s.size; omega, h⟩
theorem num_one (a : UInt8) : num [a] = a.toNat := by
  unfold num numF
  simp only [List.foldl_cons, List.foldl_nil, Nat.zero_mul, Nat.zero_add]
/-- frame.Open: what openP tells. -/
theorem open_calls (s : ByteArray) (hs : s.size ≤ 140737488351232) (w : World) :
    Calls Tryz.prog 17 #[.string s] w (OpenPost (openP s.data.toList).1 (tx (openP s.data.toList).2.1) (openP s.data.toList).2.2 w) := by
  have hlen := len_list s
  by_cases hm : s.data.toList.take 4 = magic.take s.data.toList.length
  · by_cases h9 : s.size < 9
    · have ho : openP s.data.toList = (0, [], 1) := by unfold openP; rw [if_pos hm, if_pos (by omega)]
      rw [ho]
      exact open_short s w (goes_of s hm) (by omega)
    have h1 := yes_of s hm (by omega)
    obtain ⟨k, hk⟩ : ∃ k, k = 10 * s.size + 200 := ⟨_, rfl⟩
    obtain ⟨a0, a1, a2, a3, a4, a5, a6, a7, a8, r, hl⟩ := nine s.data.toList (by omega)
    have hll : s.size = r.length + 9 := by rw [← hlen, hl]; rfl
    have z1 : (s.extract 4 s.size).size = s.size - 4 := by rw [ByteArray.size_extract]; omega
    have T1 := take_tells 1 (s.extract 4 s.size) k (by omega) (by omega) (by omega)
    have z2 : ((s.extract 4 s.size).extract 1 (s.extract 4 s.size).size).size = s.size - 5 := by rw [ByteArray.size_extract]; omega
    have T2 := take_tells 4 ((s.extract 4 s.size).extract 1 (s.extract 4 s.size).size) k (by omega) (by omega) (by omega)
    have l1 : (s.extract 4 s.size).data.toList.take 1 = [a4] := by rw [Crc.ext_drop, hl]; rfl
    have l2 : ((s.extract 4 s.size).extract 1 (s.extract 4 s.size).size).data.toList.take 4 = [a5, a6, a7, a8] := by rw [Crc.ext_drop, Crc.ext_drop, hl]; rfl
    rw [l1, num_one] at T1
    rw [l2] at T2
    have hd : num ((s.data.toList.drop 5).take 4) = num [a5, a6, a7, a8] := by rw [hl]; rfl
    have hN : num [a5, a6, a7, a8] < 256 ^ 4 := num_lt [a5, a6, a7, a8]
    rw [show (256 : Nat) ^ 4 = 4294967296 from by decide] at hN
    generalize num [a5, a6, a7, a8] = n at *
    generalize ((s.extract 4 s.size).extract 1 (s.extract 4 s.size).size) = r1 at *
    generalize r1.extract 4 r1.size = r2 at *
    by_cases q1 : 4194304 < n
    · have ho : openP s.data.toList = (0, [], 2) := by unfold openP; rw [if_pos hm, if_neg (by omega), hd, if_pos q1]
      rw [ho]
      exact open_long k s w _ _ _ _ _ _ h1 (by omega) T1 T2 (by omega)
    by_cases q2 : s.size < n + 13
    · have ho : openP s.data.toList = (0, [], 1) := by unfold openP; rw [if_pos hm, if_neg (by omega), hd, if_neg q1, if_pos (by omega)]
      rw [ho]
      exact open_less k s w _ _ _ _ _ _ h1 (by omega) hs T1 T2 (by omega) (by omega) (by omega)
    by_cases q3 : n + 13 < s.size
    · have ho : openP s.data.toList = (0, [], 6) := by unfold openP; rw [if_pos hm, if_neg (by omega), hd, if_neg q1, if_neg (by omega), if_pos (by omega)]
      rw [ho]
      exact open_more k s w _ _ _ _ _ _ h1 (by omega) hs T1 T2 (by omega) (by omega) (by omega)
    have hbody : (s.extract 4 (n + 9)).data.toList = (s.data.toList.drop 4).take (n + 5) := by
      rw [Crc.ext_mid, List.drop_take]
      rfl
    have hbl : ((s.data.toList.drop 4).take (n + 5)).length = n + 5 := by rw [List.length_take, List.length_drop]; omega
    have hsum := sum_tells k ((s.data.toList.drop 4).take (n + 5)) (by omega) (by omega)
    rw [← hbody, tx_of] at hsum
    have a4l := a4.toNat_lt
    have hO := open_same k s w _ _ _ _ _ _ h1 (by omega) hs T1 T2 (by omega) (by omega) (by omega) _ (by rw [Int.toNat_natCast]; exact hsum) (by omega) (by omega)
    rw [Int.toNat_natCast, Int.toNat_natCast, hbody] at hO
    refine hO.mono ?_
    have g4 : s.data.toList.getD 4 0 = a4 := by rw [hl]; rfl
    have hcut : s.extract (n + 9) s.size = tx (s.data.toList.drop (n + 9)) := Crc.eq_list (by rw [Crc.ext_drop]; rfl)
    have hpay : s.extract 9 (n + 9) = tx ((s.data.toList.drop 9).take n) := Crc.eq_list (by rw [Crc.ext_mid, List.drop_take]; rfl)
    rintro e w' (⟨h, hp⟩ | ⟨h, hp⟩)
    · have q4 : s.data.toList.drop (n + 9) = be4 (Crc.sum ((s.data.toList.drop 4).take (n + 5))).toNat := by
        rw [hcut] at h
        have := congrArg (fun x : ByteArray => x.data.toList) h
        exact this
      have ho : openP s.data.toList = (a4.toNat, (s.data.toList.drop 9).take n, 0) := by
        unfold openP
        rw [if_pos hm, if_neg (by omega), hd, if_neg q1, if_neg (by omega), if_neg (by omega), if_pos q4, g4]
      rw [ho, ← hpay]
      exact hp
    · have q4 : ¬ s.data.toList.drop (n + 9) = be4 (Crc.sum ((s.data.toList.drop 4).take (n + 5))).toNat := by
        intro h2
        rw [hcut, h2] at h
        exact h rfl
      have ho : openP s.data.toList = (0, [], 5) := by
        unfold openP
        rw [if_pos hm, if_neg (by omega), hd, if_neg q1, if_neg (by omega), if_neg (by omega), if_neg q4]
      rw [ho]
      exact hp
  · have ho : openP s.data.toList = (0, [], 3) := by unfold openP; rw [if_neg hm]
    rw [ho]
    obtain ⟨h1, h2⟩ := not_goes s hm
    exact open_magic s w h1 h2
end Go.Proofs.YtlmeelmjodjfpaaGreatDoor.Op
end
section
namespace Go.Proofs.YtlmeelmjodjfpaaGreatDoor.Closes
open Go.RowKit Go.Proofs.YtlmeelmjodjfpaaGreatDoor.PB Go.Proofs.YtlmeelmjodjfpaaGreatDoorW.PrintWords Go.Proofs.YtlmeelmjodjfpaaGreatDoorW.PrintLast Go.Proofs.YtlmeelmjodjfpaaGreatDoorW.PrintMore
open Go.Proofs.YtlmeelmjodjfpaaGreatDoor.Fr Go.Proofs.YtlmeelmjodjfpaaGreatDoor.Op
set_option linter.unusedVariables false
theorem num_be4 (n : Nat) (h : n < 4294967296) : num (be4 n) = n := by
  unfold num numF be4
  simp only [List.foldl_cons, List.foldl_nil, Nat.zero_mul, Nat.zero_add]
  rw [UInt8.toNat_ofNat', UInt8.toNat_ofNat', UInt8.toNat_ofNat', UInt8.toNat_ofNat']
  omega
/-- What stands behind the magic: the version's byte, the length's bytes, the payload, the sum. -/
theorem frame_cons (ver : Nat) (p : List UInt8) : ∃ b5 b6 b7 b8 t, be4 p.length = [b5, b6, b7, b8] ∧ t = be4 (Crc.sum (be1 ver ++ be4 p.length ++ p)).toNat ∧ frameOf ver p = 80 :: 79 :: 68 :: 67 :: UInt8.ofNat (ver % 256) :: b5 :: b6 :: b7 :: b8 :: (p ++ t) :=
  ⟨_, _, _, _, _, rfl, rfl, rfl⟩
theorem open_close (ver : Nat) (hv : ver < 256) (p : List UInt8) (hp : p.length ≤ 4194304) : openP (frameOf ver p) = (ver, p, 0) := by
  obtain ⟨b5, b6, b7, b8, t, hb, ht, hf⟩ := frame_cons ver p
  have hlen := frameOf_length ver p
  have hd : num (((frameOf ver p).drop 5).take 4) = p.length := by
    rw [hf]
    show num [b5, b6, b7, b8] = _
    rw [← hb, num_be4 _ (by omega)]
  have h1 : (frameOf ver p).drop (p.length + 9) = t := by
    rw [hf]
    show (p ++ t).drop p.length = t
    rw [List.drop_left]
  have h2 : ((frameOf ver p).drop 4).take (p.length + 5) = be1 ver ++ be4 p.length ++ p := by
    rw [hf, hb]
    show UInt8.ofNat (ver % 256) :: b5 :: b6 :: b7 :: b8 :: (p ++ t).take p.length = _
    rw [List.take_left]
    rfl
  have h3 : ((frameOf ver p).drop 9).take p.length = p := by
    rw [hf]
    show (p ++ t).take p.length = p
    rw [List.take_left]
  have h4 : (frameOf ver p).getD 4 0 = UInt8.ofNat (ver % 256) := by rw [hf]; rfl
  have hm : (frameOf ver p).take 4 = magic.take (frameOf ver p).length := by
    rw [List.take_of_length_le (l := magic) (by rw [hlen]; show 4 ≤ _; omega), hf]
    rfl
  unfold openP
  rw [if_pos hm, if_neg (by omega), hd, if_neg (by omega), if_neg (by omega), if_neg (by omega), h1, h2, h3, h4, if_pos ht, UInt8.toNat_ofNat']
  have : ver % 256 % 2 ^ 8 = ver := by omega
  rw [this]
theorem open_cut (ver : Nat) (p : List UInt8) (hp : p.length ≤ 4194304) (c : Nat) (hc : c < (frameOf ver p).length) : openP ((frameOf ver p).take c) = (0, [], 1) := by
  obtain ⟨b5, b6, b7, b8, t, hb, ht, hf⟩ := frame_cons ver p
  have hlen := frameOf_length ver p
  have hl : ((frameOf ver p).take c).length = c := by rw [List.length_take]; omega
  have hm : ((frameOf ver p).take c).take 4 = magic.take ((frameOf ver p).take c).length := by
    rw [hl, List.take_take, Nat.min_comm, ← List.take_take, hf]
    rfl
  unfold openP
  rw [if_pos hm]
  by_cases h9 : c < 9
  · rw [if_pos (by omega)]
  have hd : num ((((frameOf ver p).take c).drop 5).take 4) = p.length := by
    obtain ⟨d, rfl⟩ : ∃ d, c = d + 9 := ⟨c - 9, by omega⟩
    rw [hf]
    show num [b5, b6, b7, b8] = _
    rw [← hb, num_be4 _ (by omega)]
  rw [if_neg (by omega), hd, if_neg (by omega), if_pos (by omega)]
set_option maxHeartbeats 1000000
set_option maxRecDepth 100000
end Go.Proofs.YtlmeelmjodjfpaaGreatDoor.Closes
end
section
namespace Go.Proofs.YtlmeelmjodjfpaaGreatDoor.PB
open Fr (tx tx_list tx_size tx_app tx_of be1 be2 be4)
open Go.Proofs.YtlmeelmjodjfpaaGreatDoor.Op (num numF)
set_option linter.unusedVariables false
set_option linter.unusedSimpArgs false
theorem u8_mod (n : Nat) : (UInt8.ofNat (n % 256)).toNat = n % 256 := by
  rw [UInt8.toNat_ofNat']
  exact Nat.mod_eq_of_lt (Nat.mod_lt _ (by decide))
theorem numF_app (a : Nat) (l m : List UInt8) : numF a (l ++ m) = numF (numF a l) m := by unfold numF; rw [List.foldl_append]
theorem numF_be4 (a n : Nat) : numF a (be4 n) = a * 4294967296 + n % 4294967296 := by
  unfold numF be4
  simp only [List.foldl_cons, List.foldl_nil, u8_mod]
  omega
theorem num_numP (n v : Nat) (hn : n = 1 ∨ n = 2 ∨ n = 4 ∨ n = 8) (hv : v < 256 ^ n) : num (numP n v) = v := by
  rcases hn with rfl | rfl | rfl | rfl
  · show numF 0 (be1 v) = v
    unfold numF be1
    simp only [List.foldl_cons, List.foldl_nil, u8_mod]
    omega
  · show numF 0 (be2 v) = v
    unfold numF be2
    simp only [List.foldl_cons, List.foldl_nil, u8_mod]
    omega
  · show numF 0 (be4 v) = v
    rw [numF_be4]
    have hv4 : v < 4294967296 := hv
    omega
  · show numF 0 (be8 v) = v
    unfold be8
    have hv8 : v < 18446744073709551616 := hv
    rw [numF_app, numF_be4, numF_be4]
    omega
theorem numP_len (n v : Nat) (hn : n = 1 ∨ n = 2 ∨ n = 4 ∨ n = 8) : (numP n v).length = n := by
  rcases hn with rfl | rfl | rfl | rfl <;> rfl
theorem takeT_rt (n v : Nat) (r : List UInt8) (hn : n = 1 ∨ n = 2 ∨ n = 4 ∨ n = 8) (hv : v < 256 ^ n) : takeT n (numP n v ++ r) 0 = (v, (r, 0)) := by
  have hl := numP_len n v hn
  unfold takeT
  rw [if_neg (by simp), if_neg (by rw [List.length_append]; omega), List.take_left' hl, List.drop_left' hl, num_numP n v hn hv]
theorem textB_ok (s : ByteArray) (h : s.size ≤ 4096) : textB s = be2 s.size ++ s.data.toList := by unfold textB; rw [if_neg (by omega)]
theorem size_list (s : ByteArray) : s.data.toList.length = s.size := by rw [Array.length_toList]; rfl
theorem textT_rt (s : ByteArray) (r : List UInt8) (h : s.size ≤ 4096) : textT (textB s ++ r) 0 = (s.data.toList, (r, 0)) := by
  have hl2 : (be2 s.size).length = 2 := rfl
  have hn : num (be2 s.size) = s.size := num_numP 2 s.size (by simp) (by show s.size < 65536; omega)
  have hs := size_list s
  rw [textB_ok s h, List.append_assoc]
  unfold textT
  rw [if_neg (by simp), if_neg (by simp only [List.length_append]; omega), List.take_left' hl2, hn, if_neg (by omega), if_neg (by simp only [List.length_append]; omega), List.drop_left' hl2, List.take_left' hs]
  rw [← List.drop_drop, List.drop_left' hl2, List.drop_left' hs]
theorem flagT_rt (b : Bool) (r : List UInt8) : flagT (flagB b ++ r) 0 = (b, (r, 0)) := by
  cases b <;> rfl
/-- What is taken, one after the other, of what was laid, one after the other. -/
theorem rounds_rt {α : Type} (enc : α → List UInt8) (one : St → List α → St × List α) : ∀ (L : List α) (_ : ∀ x ∈ L, ∀ r s, one ⟨enc x ++ r, 0, false⟩ s = (⟨r, 0, false⟩, s ++ [x])) (r : List UInt8) (s : List α),
    rounds one L.length ⟨(L.map enc).flatten ++ r, 0, false⟩ s = (⟨r, 0, false⟩, s ++ L)
  | [], _, r, s => by simp [rounds]
  | x :: L, h, r, s => by
    show (if St.bad ⟨_, 0, false⟩ then _ else _) = _
    rw [if_neg (by simp [St.bad])]
    rw [List.map_cons, List.flatten_cons, List.append_assoc, h x (List.mem_cons_self ..)]
    rw [rounds_rt enc one L (fun y hy => h y (List.mem_cons_of_mem _ hy)) r (s ++ [x])]
    simp
theorem manyT_rt {α : Type} (enc : α → List UInt8) (one : St → List α → St × List α) (n most : Nat) (L : List α) (r : List UInt8) (hn : n = 1 ∨ n = 2) (hm : L.length ≤ most) (hm2 : most < 256 ^ n)
    (h : ∀ x ∈ L, ∀ r s, one ⟨enc x ++ r, 0, false⟩ s = (⟨r, 0, false⟩, s ++ [x])) :
    manyT n most one ⟨numP n L.length ++ ((L.map enc).flatten ++ r), 0, false⟩ [] = (⟨r, 0, false⟩, L) := by
  have ht := takeT_rt n L.length ((L.map enc).flatten ++ r) (by omega) (by omega)
  unfold manyT
  rw [if_neg (by simp [St.bad])]
  dsimp only
  rw [ht]
  dsimp only
  rw [if_neg (by omega), rounds_rt enc one L h r []]
  rfl
theorem one1_rt (s : ByteArray) (h : s.size ≤ 4096) (r : List UInt8) (l : List ByteArray) : one1 ⟨textB s ++ r, 0, false⟩ l = (⟨r, 0, false⟩, l ++ [s]) := by
  unfold one1
  dsimp only
  rw [textT_rt s r h]
  show (_, l ++ [tx s.data.toList]) = _
  rw [tx_of]
theorem uN_pos (v : Int) (h0 : 0 ≤ v) (h1 : v < 18446744073709551616) : uN v = v.toNat := by
  unfold uN
  rw [show IntKind.u64.wrap v = v % 18446744073709551616 from by simp [IntKind.wrap, IntKind.signed, IntKind.bits], Int.emod_eq_of_lt h0 h1]
def OkPort (p : S160) : Prop := (1 ≤ p.f0 ∧ p.f0 ≤ 65535) ∧ (p.f1 = 0 ∨ p.f1 = 1)
theorem one2_rt (p : S160) (h : OkPort p) (r : List UInt8) (l : List S160) : one2 ⟨portB p ++ r, 0, false⟩ l = (⟨r, 0, false⟩, l ++ [p]) := by
  obtain ⟨⟨h1, h2⟩, h3⟩ := h
  have e0 := uN_pos p.f0 (by omega) (by omega)
  have e1 := uN_pos p.f1 (by omega) (by omega)
  unfold one2 portB
  dsimp only
  rw [List.append_assoc, takeT_rt 2 (uN p.f0) _ (by simp) (by rw [e0]; show _ < 65536; omega)]
  dsimp only
  rw [takeT_rt 1 (uN p.f1) _ (by simp) (by rw [e1]; show _ < 256; omega)]
  dsimp only
  have : (⟨((uN p.f0 : Nat) : Int), ((uN p.f1 : Nat) : Int)⟩ : S160) = p := by
    rw [e0, e1, Int.toNat_of_nonneg (by omega), Int.toNat_of_nonneg (by omega)]
  rw [this]
theorem envB_app (p : S161) : envB p = textB p.f0 ++ textB p.f1 := by unfold envB textsB; simp
theorem one3_rt (p : S161) (h : p.f0.size ≤ 4096 ∧ p.f1.size ≤ 4096) (r : List UInt8) (l : List S161) : one3 ⟨envB p ++ r, 0, false⟩ l = (⟨r, 0, false⟩, l ++ [p]) := by
  unfold one3
  dsimp only
  rw [envB_app, List.append_assoc, textT_rt _ _ h.1]
  dsimp only
  rw [textT_rt _ _ h.2]
  dsimp only
  rw [tx_of, tx_of]
/-- A container that the checks let pass. -/
structure OkC (c : S104) : Prop where
  t0 : c.f0.size ≤ 4096
  t1 : c.f1.size ≤ 4096
  n2 : c.f2.length ≤ 16
  a2 : ∀ s ∈ c.f2, s.size ≤ 4096
  n3 : c.f3.length ≤ 16
  a3 : ∀ p ∈ c.f3, OkPort p
  n4 : 0 ≤ c.f4 ∧ c.f4 < 4294967296
  n5 : 0 ≤ c.f5 ∧ c.f5 < 4294967296
  n6 : c.f6.length ≤ 16
  a6 : ∀ p ∈ c.f6, p.f0.size ≤ 4096 ∧ p.f1.size ≤ 4096
theorem contT_rt (c : S104) (h : OkC c) (r : List UInt8) : contT ⟨contB c ++ r, 0, false⟩ = (c, ⟨r, 0, false⟩) := by
  have e4 := uN_pos c.f4 h.n4.1 (by have := h.n4.2; omega)
  have e5 := uN_pos c.f5 h.n5.1 (by have := h.n5.2; omega)
  have hb : contB c ++ r = textB c.f0 ++ (textB c.f1 ++ (numP 1 c.f2.length ++ ((c.f2.map textB).flatten ++ (numP 1 c.f3.length ++ ((c.f3.map portB).flatten ++ (numP 4 (uN c.f4) ++ (numP 4 (uN c.f5) ++ (numP 1 c.f6.length ++ ((c.f6.map envB).flatten ++ r))))))))) := by
    unfold contB textsB portsB envsB
    simp only [List.map_cons, List.map_nil, List.flatten_cons, List.flatten_nil, List.append_nil, List.append_assoc]
  rw [hb]
  unfold contT
  dsimp only
  rw [textT_rt _ _ h.t0]
  dsimp only
  rw [textT_rt _ _ h.t1]
  dsimp only
  rw [manyT_rt textB one1 1 16 c.f2 _ (.inl rfl) h.n2 (by decide) (fun s hs r l => one1_rt s (h.a2 s hs) r l)]
  dsimp only
  rw [manyT_rt portB one2 1 16 c.f3 _ (.inl rfl) h.n3 (by decide) (fun s hs r l => one2_rt s (h.a3 s hs) r l)]
  dsimp only
  rw [if_neg (by simp [St.bad])]
  rw [takeT_rt 4 (uN c.f4) _ (by simp) (by rw [e4]; show _ < 4294967296; have := h.n4; omega)]
  dsimp only
  rw [takeT_rt 4 (uN c.f5) _ (by simp) (by rw [e5]; show _ < 4294967296; have := h.n5; omega)]
  dsimp only
  rw [manyT_rt envB one3 1 16 c.f6 _ (.inl rfl) h.n6 (by decide) (fun s hs r l => one3_rt s (h.a6 s hs) r l)]
  dsimp only
  rw [tx_of, tx_of, e4, e5, Int.toNat_of_nonneg h.n4.1, Int.toNat_of_nonneg h.n5.1]
/-- A pod that the checks let pass. -/
structure OkPd (p : S94) : Prop where
  t0 : p.f0.size ≤ 4096
  t1 : p.f1.f0.size ≤ 4096
  t2 : p.f1.f1.size ≤ 4096
  n2 : 0 ≤ p.f1.f2 ∧ p.f1.f2 < 256
  n3 : 0 ≤ p.f1.f3 ∧ p.f1.f3 < 65536
  n5 : p.f1.f5.length ≤ 16
  a5 : ∀ c ∈ p.f1.f5, OkC c
theorem one5_rt (p : S94) (h : OkPd p) (r : List UInt8) (l : List S94) : one5 ⟨podB p ++ r, 0, false⟩ l = (⟨r, 0, false⟩, l ++ [p]) := by
  have e2 := uN_pos p.f1.f2 h.n2.1 (by have := h.n2.2; omega)
  have e3 := uN_pos p.f1.f3 h.n3.1 (by have := h.n3.2; omega)
  have hb : podB p ++ r = textB p.f0 ++ (textB p.f1.f0 ++ (textB p.f1.f1 ++ (numP 1 (uN p.f1.f2) ++ (numP 2 (uN p.f1.f3) ++ (flagB p.f1.f4 ++ (numP 1 p.f1.f5.length ++ ((p.f1.f5.map contB).flatten ++ r))))))) := by
    unfold podB textsB contsB
    simp only [List.map_cons, List.map_nil, List.flatten_cons, List.flatten_nil, List.append_nil, List.append_assoc]
  rw [hb]
  unfold one5
  dsimp only
  rw [textT_rt _ _ h.t0]
  dsimp only
  rw [textT_rt _ _ h.t1]
  dsimp only
  rw [textT_rt _ _ h.t2]
  dsimp only
  rw [takeT_rt 1 (uN p.f1.f2) _ (by simp) (by rw [e2]; show _ < 256; have := h.n2; omega)]
  dsimp only
  rw [takeT_rt 2 (uN p.f1.f3) _ (by simp) (by rw [e3]; show _ < 65536; have := h.n3; omega)]
  dsimp only
  rw [flagT_rt]
  dsimp only
  rw [manyT_rt contB one4 1 16 p.f1.f5 _ (.inl rfl) h.n5 (by decide) (fun c hc r l => by unfold one4; rw [contT_rt c (h.a5 c hc)])]
  dsimp only
  rw [tx_of, tx_of, tx_of, e2, e3, Int.toNat_of_nonneg h.n2.1, Int.toNat_of_nonneg h.n3.1]
theorem decT_rt (sq : Nat) (l : List S94) (hsq : sq < 18446744073709551616) (hl : l.length ≤ 1024) (h : ∀ p ∈ l, OkPd p) (h0 : stateP l = 0) : decT (stateB sq l) = (sq, l, 0) := by
  have hb : stateB sq l = numP 8 sq ++ (numP 2 l.length ++ ((l.map podB).flatten ++ [])) := by
    unfold stateB podsB
    simp only [List.append_nil, List.append_assoc]
  rw [hb]
  unfold decT
  dsimp only
  rw [takeT_rt 8 sq _ (by simp) hsq]
  dsimp only
  rw [manyT_rt podB one5 2 1024 l _ (.inr rfl) hl (by decide) (fun p hp r s => one5_rt p (h p hp) r s)]
  dsimp only
  rw [if_neg (by simp), if_neg (by simp [endT]), if_neg (by simp [h0])]
end Go.Proofs.YtlmeelmjodjfpaaGreatDoor.PB
end
section
namespace Go.Proofs.YtlmeelmjodjfpaaGreatDoor.PB
open Fr (tx tx_list tx_size tx_app tx_of)
set_option linter.unusedVariables false
set_option linter.unusedSimpArgs false
theorem or_zero {a b : Int} (h : orP a b = 0) : a = 0 ∧ b = 0 := by
  unfold orP at h
  by_cases h1 : a = 0
  · rw [if_pos h1] at h; exact ⟨h1, h⟩
  · rw [if_neg h1] at h; exact absurd h h1
theorem when_zero {b : Bool} {e : Int} (he : e ≠ 0) (h : whenP b e = 0) : b = false := by
  cases b
  · rfl
  · exact absurd h he
theorem text_ok {s : ByteArray} (h : textP s = 0) : s.size ≤ 4096 := by
  unfold textP at h
  by_cases h1 : Val s = true
  · rw [if_pos h1] at h
    by_cases h2 : 4096 < s.size
    · rw [if_pos h2] at h; exact absurd h (by decide)
    · omega
  · rw [if_neg h1] at h; exact absurd h (by decide)
theorem cmd_ok : ∀ {l : List ByteArray}, cmdP l = 0 → ∀ s ∈ l, s.size ≤ 4096
  | [], _, s, hs => by cases hs
  | x :: l, h, s, hs => by
    unfold cmdP at h
    by_cases h1 : textP x = 0
    · rw [if_pos h1] at h
      rcases List.mem_cons.1 hs with rfl | hs
      · exact text_ok h1
      · exact cmd_ok h s hs
    · rw [if_neg h1] at h; exact absurd h h1
theorem ports_ok : ∀ {l seen : List S160}, portsP seen l = 0 → ∀ p ∈ l, OkPort p
  | [], _, _, p, hp => by cases hp
  | x :: l, seen, h, p, hp => by
    unfold portsP at h
    by_cases h1 : portE seen x = 0
    · rw [if_pos h1] at h
      rcases List.mem_cons.1 hp with rfl | hp
      · unfold portE at h1
        by_cases h2 : portBad p = true
        · rw [if_pos h2] at h1; exact absurd h1 (by decide)
        · unfold portBad at h2
          simp only [Bool.not_eq_true, Bool.or_eq_false_iff, Bool.not_eq_false', Bool.and_eq_true, decide_eq_true_eq, Bool.and_eq_false_iff, bne_eq_false_iff_eq] at h2
          exact ⟨h2.1, h2.2⟩
      · exact ports_ok h p hp
    · rw [if_neg h1] at h; exact absurd h h1
theorem var_ok {s : ByteArray} (h : varP s = true) : s.size ≤ 63 := by
  unfold varP at h
  simp only [Bool.and_eq_true, decide_eq_true_eq] at h
  exact h.1.1.2
theorem label_ok {s : ByteArray} (h : labelP s = true) : s.size ≤ 63 := by
  unfold labelP at h
  simp only [Bool.and_eq_true, decide_eq_true_eq] at h
  exact h.1.1.1.2
theorem image_ok {s : ByteArray} (h : imageP s = true) : s.size ≤ 255 := by
  unfold imageP at h
  simp only [Bool.and_eq_true, decide_eq_true_eq] at h
  exact h.1.1.2
theorem file_ok {s : ByteArray} (h : fileP s = true) : s.size ≤ 64 := by
  unfold fileP at h
  simp only [Bool.and_eq_true, decide_eq_true_eq] at h
  exact h.2.2
theorem name_ok {s : ByteArray} (h : nameP s = true) : s.size ≤ 253 := by
  unfold nameP at h
  simp only [Bool.and_eq_true, decide_eq_true_eq] at h
  exact h.2
theorem env_ok : ∀ {l : List S161} {seen : List ByteArray}, envP seen l = 0 → ∀ v ∈ l, v.f0.size ≤ 4096 ∧ v.f1.size ≤ 4096
  | [], _, _, p, hp => by cases hp
  | x :: l, seen, h, p, hp => by
    unfold envP at h
    by_cases h1 : envE seen x = 0
    · rw [if_pos h1] at h
      rcases List.mem_cons.1 hp with rfl | hp
      · unfold envE at h1
        by_cases h2 : varP p.f0 = true
        · rw [if_pos h2] at h1
          by_cases h3 : 0 < cntOf seen p.f0
          · rw [if_pos h3] at h1; exact absurd h1 (by decide)
          · rw [if_neg h3] at h1
            exact ⟨Nat.le_trans (var_ok h2) (by decide), text_ok h1⟩
        · rw [if_neg h2] at h1; exact absurd h1 (by decide)
      · exact env_ok h p hp
    · rw [if_neg h1] at h; exact absurd h h1
theorem cont_ok {seen : List ByteArray} {c : S104} (h : contE seen c = 0) : OkC c := by
  unfold contE at h
  obtain ⟨h1, h2⟩ := or_zero h
  unfold chP at h1
  obtain ⟨a1, h1⟩ := or_zero h1
  obtain ⟨a2, h1⟩ := or_zero h1
  obtain ⟨a3, h1⟩ := or_zero h1
  obtain ⟨a4, a5⟩ := or_zero h1
  have b1 := when_zero (by decide) a1
  have b3 := when_zero (by decide) a3
  have b4 := when_zero (by decide) a4
  have b5 := when_zero (by decide) a5
  unfold partsP at h2
  obtain ⟨d1, h2⟩ := or_zero h2
  obtain ⟨d2, d3⟩ := or_zero h2
  simp only [Bool.or_eq_false_iff, manyP, decide_eq_false_iff_not, Bool.not_eq_false', fromP, Bool.and_eq_true, decide_eq_true_eq] at b1 b3 b4 b5
  exact ⟨Nat.le_trans (label_ok b1) (by decide), Nat.le_trans (image_ok b3) (by decide), by omega, cmd_ok d1, by omega, ports_ok d2, by omega, by omega, by omega, env_ok d3⟩
theorem conts_ok : ∀ {l : List S104} {seen : List ByteArray}, contsP seen l = 0 → ∀ c ∈ l, OkC c
  | [], _, _, c, hc => by cases hc
  | x :: l, seen, h, c, hc => by
    unfold contsP at h
    by_cases h1 : contE seen x = 0
    · rw [if_pos h1] at h
      rcases List.mem_cons.1 hc with rfl | hc
      · exact cont_ok h1
      · exact conts_ok h c hc
    · rw [if_neg h1] at h; exact absurd h h1
theorem pod_ok {p : S94} (hf : fileP p.f0 = true) (h : podOf p = 0) : OkPd p := by
  unfold podOf podP at h
  obtain ⟨h1, h2⟩ := or_zero h
  unfold headP at h1
  obtain ⟨a1, h1⟩ := or_zero h1
  obtain ⟨a2, h1⟩ := or_zero h1
  obtain ⟨a3, a4⟩ := or_zero h1
  have b1 := when_zero (by decide) a1
  have b2 := when_zero (by decide) a2
  have b4 := when_zero (by decide) a4
  simp only [Bool.or_eq_false_iff, manyP, decide_eq_false_iff_not, Bool.not_eq_false', fromP, Bool.and_eq_true, decide_eq_true_eq] at b1 b2 b4
  exact ⟨Nat.le_trans (file_ok hf) (by decide), Nat.le_trans (name_ok b1.1) (by decide), Nat.le_trans (label_ok b1.2) (by decide), by omega, by omega, by omega, conts_ok h2⟩
theorem pods_ok : ∀ {l : List S94} {prev : Option ByteArray}, podsP prev l = 0 → ∀ p ∈ l, OkPd p
  | [], _, _, c, hc => by cases hc
  | x :: l, prev, h, c, hc => by
    unfold podsP at h
    by_cases h1 : podE prev x = 0
    · rw [if_pos h1] at h
      rcases List.mem_cons.1 hc with rfl | hc
      · unfold podE at h1
        by_cases h2 : fileP c.f0 = true
        · rw [if_pos h2] at h1
          by_cases h3 : fileLe prev c = true
          · rw [if_pos h3] at h1; exact absurd h1 (by decide)
          · rw [if_neg h3] at h1
            exact pod_ok h2 h1
        · rw [if_neg h2] at h1; exact absurd h1 (by decide)
      · exact pods_ok h c hc
    · rw [if_neg h1] at h; exact absurd h h1
theorem decT_state (sq : Nat) (l : List S94) (hsq : sq < 18446744073709551616) (h0 : stateP l = 0) : decT (stateB sq l) = (sq, l, 0) := by
  have h := h0
  unfold stateP at h
  by_cases h1 : 1024 < l.length
  · rw [if_pos h1] at h; exact absurd h (by decide)
  · rw [if_neg h1] at h
    exact decT_rt sq l hsq (by omega) (pods_ok h) h0
end Go.Proofs.YtlmeelmjodjfpaaGreatDoor.PB
end
