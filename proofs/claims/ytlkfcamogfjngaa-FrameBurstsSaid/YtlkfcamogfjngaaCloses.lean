/- FrameCloses, walked: it returns true for every version, payload and cut. -/
import Derived.Test.YtlkfcamogfjngaaOpw
namespace Go.Proofs.Ytlkfcamogfjngaa.Closes
open Go.RowKit Go.Proofs.Ytlkfcamogfjngaa.PAll Go.Proofs.YtlkfcamogfjngaaW.PrintWords Go.Proofs.YtlkfcamogfjngaaW.PrintLast Go.Proofs.YtlkfcamogfjngaaW.PrintMore
open Go.Proofs.Ytlkfcamogfjngaa.Fr Go.Proofs.Ytlkfcamogfjngaa.Op
set_option linter.unusedVariables false

/-! The plain law. -/
theorem be1_ver (ver : Nat) (hv : ver < 256) : be1 ver = [UInt8.ofNat ver] := by unfold be1; rw [Nat.mod_eq_of_lt hv]
theorem frame_shape (ver : Nat) (p : List UInt8) : frameOf ver p = magic ++ (be1 ver ++ be4 p.length ++ p) ++ be4 (Crc.sum (be1 ver ++ be4 p.length ++ p)).toNat := rfl
theorem num_be4 (n : Nat) (h : n < 4294967296) : num (be4 n) = n := by
  unfold num numF be4
  simp only [List.foldl_cons, List.foldl_nil, Nat.zero_mul, Nat.zero_add]
  rw [UInt8.toNat_ofNat', UInt8.toNat_ofNat', UInt8.toNat_ofNat', UInt8.toNat_ofNat']
  omega
/-- What stands behind the magic: the version's byte, the length's bytes, the payload, the sum. -/
theorem frame_cons (ver : Nat) (p : List UInt8) : ∃ b5 b6 b7 b8 t, be4 p.length = [b5, b6, b7, b8] ∧ t = be4 (Crc.sum (be1 ver ++ be4 p.length ++ p)).toNat ∧ frameOf ver p = 80 :: 79 :: 68 :: 67 :: UInt8.ofNat (ver % 256) :: b5 :: b6 :: b7 :: b8 :: (p ++ t) :=
  ⟨_, _, _, _, _, rfl, rfl, rfl⟩
theorem open_close (ver : Nat) (hv : ver < 256) (p : List UInt8) (hp : p.length ≤ 4194304) : openP (frameOf ver p) = (ver, p, 0) := by
  obtain ⟨b5, b6, b7, b8, t, hb, ht, hf⟩ := frame_cons ver p
  have hlen := frameOf_length ver p
  have hd : num (((frameOf ver p).drop 5).take 4) = p.length := by
    rw [hf]
    show num [b5, b6, b7, b8] = _
    rw [← hb, num_be4 _ (by omega)]
  have h1 : (frameOf ver p).drop (p.length + 9) = t := by
    rw [hf]
    show (p ++ t).drop p.length = t
    rw [List.drop_left]
  have h2 : ((frameOf ver p).drop 4).take (p.length + 5) = be1 ver ++ be4 p.length ++ p := by
    rw [hf, hb]
    show UInt8.ofNat (ver % 256) :: b5 :: b6 :: b7 :: b8 :: (p ++ t).take p.length = _
    rw [List.take_left]
    rfl
  have h3 : ((frameOf ver p).drop 9).take p.length = p := by
    rw [hf]
    show (p ++ t).take p.length = p
    rw [List.take_left]
  have h4 : (frameOf ver p).getD 4 0 = UInt8.ofNat (ver % 256) := by rw [hf]; rfl
  have hm : (frameOf ver p).take 4 = magic.take (frameOf ver p).length := by
    rw [List.take_of_length_le (l := magic) (by rw [hlen]; show 4 ≤ _; omega), hf]
    rfl
  unfold openP
  rw [if_pos hm, if_neg (by omega), hd, if_neg (by omega), if_neg (by omega), if_neg (by omega), h1, h2, h3, h4, if_pos ht, UInt8.toNat_ofNat']
  have : ver % 256 % 2 ^ 8 = ver := by omega
  rw [this]
theorem open_cut (ver : Nat) (p : List UInt8) (hp : p.length ≤ 4194304) (c : Nat) (hc : c < (frameOf ver p).length) : openP ((frameOf ver p).take c) = (0, [], 1) := by
  obtain ⟨b5, b6, b7, b8, t, hb, ht, hf⟩ := frame_cons ver p
  have hlen := frameOf_length ver p
  have hl : ((frameOf ver p).take c).length = c := by rw [List.length_take]; omega
  have hm : ((frameOf ver p).take c).take 4 = magic.take ((frameOf ver p).take c).length := by
    rw [hl, List.take_take, Nat.min_comm, ← List.take_take, hf]
    rfl
  unfold openP
  rw [if_pos hm]
  by_cases h9 : c < 9
  · rw [if_pos (by omega)]
  have hd : num ((((frameOf ver p).take c).drop 5).take 4) = p.length := by
    obtain ⟨d, rfl⟩ : ∃ d, c = d + 9 := ⟨c - 9, by omega⟩
    rw [hf]
    show num [b5, b6, b7, b8] = _
    rw [← hb, num_be4 _ (by omega)]
  rw [if_neg (by omega), hd, if_neg (by omega), if_pos (by omega)]

set_option maxHeartbeats 1000000
set_option maxRecDepth 100000
theorem walk (ver : Int) (p : ByteArray) (cut : Int) (w : World) (hv : (Lit.int .u8 ver).wf = true) (hp : p.size ≤ 140737488351232) (hc : (Lit.int .i64 cut).wf = true) :
    Calls Try.prog 7 #[.int .u8 ver, .string p, .int .i64 cut] w fun e w' => e = .returned (.bool true) ∧ Below w.heap.size w w' := by
  have hv2 : 0 ≤ ver ∧ ver < 256 := by
    have h := hv
    simp only [Lit.wf, Bool.and_eq_true, decide_eq_true_eq] at h
    have h1 : IntKind.min .u8 = 0 := by decide
    have h2 : IntKind.max .u8 = 255 := by decide
    omega
  clear hv hc
  obtain ⟨v, rfl⟩ := Int.eq_ofNat_of_zero_le hv2.1
  obtain ⟨k, hk⟩ : ∃ k, k = 10 * p.size + 400 := ⟨_, rfl⟩
  have A := Aside0.mk (awake3 k (by omega))
  by_cases h : 2000 < (p.size : Int)
  · clear hk
    go_enter Try.func7, Try.ntmps7
    go_wp2_with fail
    refine (bosunlaw03_Awake.calls k true _ A.out).mono ?_
    rintro e w1 ⟨rfl, hb⟩
    go_wp2_with fail
    go_ret
    exact ⟨rfl, hb⟩
  · have hlen := len_list p
    have hC := close_tells k v (by omega) p (by omega) (by omega)
    have hR := rclose_tells k v p (by omega) (by omega)
    have hfl := frameOf_length v p.data.toList
    have hO := open_calls (tx (frameOf v p.data.toList)) (by rw [tx_size]; omega)
    rw [tx_list, open_close v (by omega) _ (by omega), tx_of] at hO
    rw [← hlen, ← be1_ver v (by omega), show (([80, 79, 68, 67] : List UInt8) ++ (be1 v ++ be4 p.data.toList.length ++ p.data.toList) ++ be4 (Crc.sum (be1 v ++ be4 p.data.toList.length ++ p.data.toList)).toNat) = frameOf v p.data.toList from rfl] at hR
    have hcut : ∀ c : Nat, c < (tx (frameOf v p.data.toList)).size → ∀ w, Calls Try.prog 15 #[.string ((tx (frameOf v p.data.toList)).extract 0 c)] w (OpenPost 0 (tx []) 1 w) := by
      intro c hc w
      have h := open_calls ((tx (frameOf v p.data.toList)).extract 0 c) (by rw [ByteArray.size_extract, tx_size]; omega) w
      rw [tx_size] at hc
      rw [Crc.ext_take, tx_list, open_cut v _ (by omega) c hc] at h
      exact h
    have hz := tx_size (frameOf v p.data.toList)
    generalize tx (frameOf v p.data.toList) = f at *
    have hz2 : f.size = p.size + 13 := by omega
    have C1 := Aside0.mk hC
    have R1 := Aside0.mk hR
    have O1 := Aside0.mk hO
    have K1 := Aside0.mk hcut
    have hfn : (f.size : Int) = p.size + 13 := by omega
    have hlx := hfl
    clear hC hR hO hcut hk hlx hfl hz hlen
    by_cases hc0 : cut < 0
    · clear K1
      go_enter Try.func7, Try.ntmps7
      go_wp2_with fail
      refine (frame_Close.calls k (v : Int) p f 0 _ C1.out).mono ?_
      rintro e w1 ⟨rfl, hb⟩
      have HB := Aside0.mk hb
      clear hb
      go_wp2_with fail
      refine (bosunref03_Close.calls k (v : Int) p f _ R1.out).mono ?_
      rintro e w2 ⟨rfl, hb⟩
      have HB2 := Aside0.mk (below_step HB.out hb)
      clear hb HB
      go_wp2_with fail
      refine (O1.out _).mono ?_
      rintro e w3 ⟨rfl, hb⟩
      have HB := Aside0.mk (below_step HB2.out hb)
      clear hb HB2
      go_wp2_with fail
      refine (bosunlaw03_Awake.calls k true _ A.out).mono ?_
      rintro e w5 ⟨rfl, hb⟩
      have HB2 := Aside0.mk (below_step HB.out hb)
      clear hb HB
      go_wp2_with fail
      go_ret
      exact ⟨rfl, HB2.out⟩
    by_cases hc1 : (f.size : Int) ≤ cut
    · clear K1
      go_enter Try.func7, Try.ntmps7
      go_wp2_with fail
      refine (frame_Close.calls k (v : Int) p f 0 _ C1.out).mono ?_
      rintro e w1 ⟨rfl, hb⟩
      have HB := Aside0.mk hb
      clear hb
      go_wp2_with fail
      refine (bosunref03_Close.calls k (v : Int) p f _ R1.out).mono ?_
      rintro e w2 ⟨rfl, hb⟩
      have HB2 := Aside0.mk (below_step HB.out hb)
      clear hb HB
      go_wp2_with fail
      refine (O1.out _).mono ?_
      rintro e w3 ⟨rfl, hb⟩
      have HB := Aside0.mk (below_step HB2.out hb)
      clear hb HB2
      go_wp2_with fail
      refine (bosunlaw03_Awake.calls k true _ A.out).mono ?_
      rintro e w5 ⟨rfl, hb⟩
      have HB2 := Aside0.mk (below_step HB.out hb)
      clear hb HB
      go_wp2_with fail
      go_ret
      exact ⟨rfl, HB2.out⟩
    · have hc2 : 0 ≤ cut := by omega
      have hc3 : cut < (f.size : Int) := by omega
      have K2 := Aside0.mk (K1.out cut.toNat (by omega))
      clear K1 hc0 hc1
      go_enter Try.func7, Try.ntmps7
      go_wp2_with fail
      refine (frame_Close.calls k (v : Int) p f 0 _ C1.out).mono ?_
      rintro e w1 ⟨rfl, hb⟩
      have HB := Aside0.mk hb
      clear hb
      go_wp2_with fail
      refine (bosunref03_Close.calls k (v : Int) p f _ R1.out).mono ?_
      rintro e w2 ⟨rfl, hb⟩
      have HB2 := Aside0.mk (below_step HB.out hb)
      clear hb HB
      go_wp2_with fail
      refine (O1.out _).mono ?_
      rintro e w3 ⟨rfl, hb⟩
      have HB := Aside0.mk (below_step HB2.out hb)
      clear hb HB2
      go_wp2_with fail
      refine (K2.out _).mono ?_
      rintro e w4 ⟨rfl, hb⟩
      have HB2 := Aside0.mk (below_step HB.out hb)
      clear hb HB
      have HB := HB2
      clear HB2
      go_wp2_with fail
      refine (bosunlaw03_Awake.calls k true _ A.out).mono ?_
      rintro e w5 ⟨rfl, hb⟩
      have HB2 := Aside0.mk (below_step HB.out hb)
      clear hb HB
      go_wp2_with fail
      go_ret
      exact ⟨rfl, HB2.out⟩
end Go.Proofs.Ytlkfcamogfjngaa.Closes
