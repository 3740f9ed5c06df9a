/- CkptBursts, part 21 of 24 of its proof: for every input that meets the row's condition (laid, tied) the call returns true and each argument reads behind it as before. -/
import Derived.Test.YtlmeelmjodjfpaaGreatDoorG17
import Derived.Test.YtlmeelmjodjfpaaGreatDoorG18
import Derived.Test.YtlmeelmjodjfpaaGreatDoorG19
import Derived.Deep.DeepCutAuto
import Derived.Deep.RegionWith
section
namespace Go.Proofs.YtlmeelmjodjfpaaGreatDoor.PB
open Go.RowKit Go.Proofs.YtlmeelmjodjfpaaGreatDoorW.PrintWords Go.Proofs.YtlmeelmjodjfpaaGreatDoorW.PrintLast Go.Proofs.YtlmeelmjodjfpaaGreatDoorW.PrintMore
open Fr (tx tx_list tx_size tx_app tx_of frameOf frameOf_length)
open Go.Proofs.YtlmeelmjodjfpaaGreatDoor.Op (openP)
open Go.Proofs.YtlmeelmjodjfpaaGreatDoor.Brow (BRow below_new)
open Go.Proofs.YtlmeelmjodjfpaaGreatDoor.Bits (bit flip flip_length bit_flip)
open Go.Proofs.YtlmeelmjodjfpaaGreatDoor.Fburst (Part frame_burst)
set_option linter.unusedVariables false
set_option linter.unusedSimpArgs false
set_option maxHeartbeats 2000000
set_option maxRecDepth 100000
/-- What Three says where it says no error. -/
theorem three_ok (sq : Nat) (l : List S94) (h : (threeP sq l).2 = 0) : stateP l = 0 ∧ (stateB sq l).length ≤ 4194304 ∧ (threeP sq l).1 = frameOf 3 (stateB sq l) := by
  unfold threeP closedP at h ⊢
  by_cases h0 : stateP l = 0
  · have he : encB sq l = stateB sq l := if_pos h0
    rw [if_neg (by simpa using h0), he] at h ⊢
    unfold closeP at h ⊢
    by_cases h1 : 4194304 < (stateB sq l).length
    · rw [if_pos h1] at h; exact absurd h (by decide)
    · rw [if_neg h1]
      exact ⟨h0, by omega, rfl⟩
  · rw [if_pos h0] at h
    exact absurd h h0
theorem load_cut (sq : Nat) (l : List S94) (hl : (stateB sq l).length ≤ 4194304) (n : Nat) (hn : n < (tx (frameOf 3 (stateB sq l))).size) (W : World) :
    Calls Tryz.prog 7 #[.string ((tx (frameOf 3 (stateB sq l))).extract 0 n)] W fun e w' => ∃ A k, e = .returned (.tuple #[.agg #[.int .u64 0, .slice A 0 k], .int .i64 0, .int .i64 1]) ∧ Below W.heap.size W w' := by
  rw [tx_size] at hn
  have ho : openP ((frameOf 3 (stateB sq l)).take n) = (0, [], 1) := Closes.open_cut 3 _ hl n hn
  rw [tx_take]
  have hfl := frameOf_length 3 (stateB sq l)
  have hs : (tx ((frameOf 3 (stateB sq l)).take n)).size ≤ 140737488351232 := by rw [tx_size, List.length_take]; omega
  refine (load_shut _ W 1 (tx []) 0 (fun W => ?_) (by decide)).mono ?_
  · have := Op.open_calls (tx ((frameOf 3 (stateB sq l)).take n)) hs W
    rw [tx_list, ho] at this
    exact this
  · rintro e w' ⟨u, rfl, hR, hb⟩
    obtain ⟨A, k, rfl⟩ := R_nil0 hR
    exact ⟨A, k, rfl, hb⟩
theorem load_turned (sq : Nat) (l : List S94) (hsq : sq < 18446744073709551616) (h0 : stateP l = 0) (hl : (stateB sq l).length ≤ 4194304) (m : List UInt8) (hm : m.length ≤ 5000000) (hfin : (openP m).2.2 = 0 ↔ m = frameOf 3 (stateB sq l)) (W : World) (hT : Tabs W) :
    Calls Tryz.prog 7 #[.string (tx m)] W fun e w' => ∃ (n : Int) (u : Value) (v c : Int), e = .returned (.tuple #[.agg #[.int .u64 n, u], .int .i64 v, .int .i64 c]) ∧ (c = 0 ↔ m = frameOf 3 (stateB sq l)) ∧ Below W.heap.size W w' := by
  have hO := fun W => Op.open_calls (tx m) (by rw [tx_size]; omega) W
  rw [tx_list] at hO
  by_cases hc : (openP m).2.2 = 0
  · have hmf := hfin.1 hc
    subst hmf
    rw [Closes.open_close 3 (by decide) _ hl] at hO
    have hd := load3.calls
    have hL := load_3 (tx (frameOf 3 (stateB sq l))) W (tx (stateB sq l)) 3 hT hO rfl sq l 0 (fun W pb hc hT => by
      have := load3.calls pb (tx (stateB sq l)) W hc hT
      rw [tx_list, decT_state sq l hsq h0] at this
      exact this)
    rw [if_pos rfl] at hL
    refine hL.mono ?_
    rintro e w' ⟨u, rfl, hR, hb⟩
    exact ⟨_, u, 3, 0, rfl, by simp, hb⟩
  · refine (load_shut (tx m) W (openP m).2.2 _ _ hO hc).mono ?_
    rintro e w' ⟨u, rfl, hR, hb⟩
    exact ⟨_, u, 0, _, rfl, ⟨fun h => absurd (by omega) hc, fun h => absurd (hfin.2 h) hc⟩, hb⟩
/-- What holds at the head of each round. -/
def Inv (w : World) (g : Nat) (wr : World) (f : ByteArray) (lo hi : Nat) (k : Nat) (m : List UInt8) : Prop :=
  k ≤ 32 ∧ m.length = f.size ∧ BRow wr g m ∧ (∀ q, q < lo ∨ lo + 32 ≤ q ∨ hi ≤ q → bit m q = bit f.data.toList q) ∧ Below w.heap.size w wr ∧ w.heap.size ≤ g
theorem Inv.keep {w wr : World} {g : Nat} {f : ByteArray} {lo hi k : Nat} {m : List UInt8} (h : Inv w g wr f lo hi k m) (hk : k < 32) : Inv w g wr f lo hi (k + 1) m := ⟨by omega, h.2.1, h.2.2.1, h.2.2.2.1, h.2.2.2.2⟩
theorem Inv.turn {w wr : World} {g : Nat} {f : ByteArray} {lo hi k : Nat} {m : List UInt8} (h : Inv w g wr f lo hi k m) (hk : k < 32) (q : Nat) (hq : q = lo + k) (hlt : q < hi) (hhi : hi ≤ 8 * f.size) :
    Inv w g ((wr.setCell ⟨g, q / 8, none⟩ (.int .u8 (Go.bits BinOp.xor IntKind.u8 (((m[q / 8]?.getD 0).toNat : Nat) : Int) (2 ^ (q % 8) % 256)))).drew) f lo hi (k + 1) (flip m q) := by
  obtain ⟨h1, h2, h3, h4, h5, h6⟩ := h
  have hx : (m[q / 8]?.getD 0).toNat < 256 := UInt8.toNat_lt _
  have hp : 2 ^ (q % 8) < 256 := Nat.lt_of_lt_of_le (Nat.pow_lt_pow_right (by decide) (show q % 8 < 8 by omega)) (by decide)
  have hv : Go.bits BinOp.xor IntKind.u8 (((m[q / 8]?.getD 0).toNat : Nat) : Int) (2 ^ (q % 8) % 256) = (((UInt8.ofNat ((m.getD (q / 8) 0).toNat ^^^ 2 ^ (q % 8))).toNat : Nat) : Int) := by
    have e : ((2 : Int) ^ (q % 8) % 256) = ((2 ^ (q % 8) : Nat) : Int) := by
      have : ((2 : Int) ^ (q % 8)) = ((2 ^ (q % 8) : Nat) : Int) := by norm_cast
      rw [this]
      exact_mod_cast Nat.mod_eq_of_lt hp
    rw [e, Bits.xor_u8 _ _ hx hp, List.getD_eq_getElem?_getD, UInt8.toNat_ofNat', Nat.mod_eq_of_lt (Nat.xor_lt_two_pow hx hp)]
  refine ⟨by omega, by rw [flip_length]; exact h2, ?_, ?_, ?_, h6⟩
  · exact (h3.set _ (by omega) _ _ hv).drew
  · intro p hp
    rw [bit_flip m q p (by omega)]
    exact h4 p hp
  · exact below_drew1 (h5.setCell h6 _)
theorem num_next (k : Nat) : Value.int IntKind.i64 ((k : Int) + 1) = Value.int IntKind.i64 ((k + 1 : Nat) : Int) := by rw [Int.natCast_add]; rfl
end Go.Proofs.YtlmeelmjodjfpaaGreatDoor.PB
end
section
namespace Go.Proofs.YtlmeelmjodjfpaaGreatDoor.PB
open Go.RowKit Go.Proofs.YtlmeelmjodjfpaaGreatDoorW.PrintWords Go.Proofs.YtlmeelmjodjfpaaGreatDoorW.PrintLast Go.Proofs.YtlmeelmjodjfpaaGreatDoorW.PrintMore
open Fr (tx tx_list tx_size tx_app tx_of frameOf frameOf_length)
open Go.Proofs.YtlmeelmjodjfpaaGreatDoor.Op (openP)
open Go.Proofs.YtlmeelmjodjfpaaGreatDoor.Brow (BRow below_new)
open Go.Proofs.YtlmeelmjodjfpaaGreatDoor.Bits (bit flip flip_length bit_flip)
open Go.Proofs.YtlmeelmjodjfpaaGreatDoor.Fburst (Part frame_burst)
set_option linter.unusedVariables false
set_option linter.unusedSimpArgs false
set_option maxHeartbeats 2000000
set_option maxRecDepth 100000
/-- What the calls of the law come to, where the state is whole: the frame's text f, of pl bytes of payload. -/
structure LC (sq : Nat) (A : Option Addr) (nl c : Nat) (f : ByteArray) (pl : Nat) (w : World) : Prop where
  S : ∀ W, Below w.heap.size w W → Calls Tryz.prog 11 #[.agg #[.int .u64 (sq : Int), .slice A nl c]] W fun e w' => e = .returned (.bool true) ∧ Below W.heap.size W w'
  T : ∀ W, Below w.heap.size w W → Calls Tryz.prog 12 #[.agg #[.int .u64 (sq : Int), .slice A nl c]] W fun e w' => e = .returned (.tuple #[.string f, .int .i64 0]) ∧ Below W.heap.size W w'
  C : ∀ n, n < f.size → ∀ W, Calls Tryz.prog 7 #[.string (f.extract 0 n)] W fun e w' => ∃ A k, e = .returned (.tuple #[.agg #[.int .u64 0, .slice A 0 k], .int .i64 0, .int .i64 1]) ∧ Below W.heap.size W w'
  L : ∀ (m : List UInt8) (fr til lo : Nat), m.length = f.size → Part pl fr til → 8 * fr ≤ lo → (∀ q, q < lo ∨ lo + 32 ≤ q ∨ 8 * til ≤ q → bit m q = bit f.data.toList q) → ∀ W, Below w.heap.size w W →
    Calls Tryz.prog 7 #[.string (tx m)] W fun e w' => ∃ (n : Int) (u : Value) (v c : Int), e = .returned (.tuple #[.agg #[.int .u64 n, u], .int .i64 v, .int .i64 c]) ∧ (c = 0 ↔ tx m = f) ∧ Below W.heap.size W w'
  A : ∀ W, Below w.heap.size w W → Calls Tryz.prog 5 #[] W (TrueP W)
theorem box_cells {w W : World} {N : Nat} {u v : Value} {t : TypeId} (h : W.heap[N]? = some (.cells #[u, v] t (0, 0))) : W.cell? ⟨N, 0, none⟩ = some u ∧ W.cell? ⟨N, 1, none⟩ = some v := ⟨(blk_cell h 0).trans rfl, (blk_cell h 1).trans rfl⟩
theorem core (sq : Nat) (A : Option Addr) (nl c : Nat) (f : ByteArray) (pl : Nat) (cut : Int) (at_ pat part : Int) (w : World) (X : Aside0 (LC sq A nl c f pl w)) (hz : (f.size : Int) = pl + 13) (hpl : pl ≤ 4194304) (hp0 : 0 ≤ part) :
    Calls Tryz.prog 4 #[.agg #[.int .u64 (sq : Int), .slice A nl c], .int .i64 cut, .int .i64 at_, .int .u32 pat, .int .u8 part] w (TrueP w) := by
  have HB := Aside0.mk (below_alloc (Below.refl w.heap.size w) (.cells #[.int .u64 (sq : Int), .slice A nl c] 28))
  have HX := Aside0.mk (blk_new w (.cells #[.int .u64 (sq : Int), .slice A nl c] 28))
  go_enter Tryz.func4, Tryz.ntmps4
  go_upto_region 8 with (first | (go_at_call 11; go_loud (refine (X.out.S _ HB.out).mono ?_); rintro e w1 ⟨rfl, hb⟩; replace HB := Aside0.mk (below_step HB.out hb); replace HX := Aside0.mk (blk_below HX.out hb); clear hb; obtain ⟨x0, x1⟩ := box_cells (w := w) HX.out) | (go_at_call 12; go_loud (refine (X.out.T _ HB.out).mono ?_); rintro e w2 ⟨rfl, hb⟩; replace HB := Aside0.mk (below_step HB.out hb); clear hb x0 x1 HX))
  go_cut [43] (fun s wx => (s = .bool true ∧ 0 ≤ cut ∧ cut < f.size ∨ s = .bool false) ∧ wx = w2)
  case first =>
    by_cases hc0 : 0 ≤ cut
    · by_cases hc1 : cut < f.size
      · go_wp2_with fail
        go_meet
        case rel => exact ⟨.inl ⟨congrArg Value.bool (decide_eq_true (by omega)), hc0, hc1⟩, rfl⟩
      · go_wp2_with fail
        go_meet
        case rel => exact ⟨.inr (congrArg Value.bool (decide_eq_false (by omega))), rfl⟩
    · go_wp2_with fail
      go_meet
      case rel => exact ⟨.inr rfl, rfl⟩
  case rest =>
    obtain ⟨hs, rfl⟩ := hcut
    go_upto_if 43 with fail
    go_cut [] (fun wx => Aside0 (Below w.heap.size w wx))
    case first =>
      rcases hs with ⟨rfl, hc0, hc1⟩ | rfl
      · obtain ⟨n, rfl⟩ := Int.eq_ofNat_of_zero_le hc0
        have hn : n < f.size := by omega
        have XC := Aside0.mk (X.out.C n hn)
        clear hn
        go_wp2_with (go_at_call 7; go_loud (refine (XC.out _).mono ?_); rintro e w3 ⟨A3, k3, rfl, hb⟩; replace HB := Aside0.mk (below_step HB.out hb); clear hb XC)
        go_meet
        case rel => exact Aside0.mk (below_alloc HB.out _)
      · go_wp2_with fail
        go_meet
        case rel => exact HB
    case rest =>
      clear hs
      have HB := Aside0.mk hcut.out
      clear hcut
      go_upto_block 0 with fail
      go_cut [16, 17] (fun x y wx => (∃ fr til : Nat, x = .int .i64 (fr : Int) ∧ y = .int .i64 (til : Int) ∧ Part pl fr til) ∧ wx = wc)
      case first =>
        rcases (show part % 3 = 0 ∨ part % 3 = 1 ∨ part % 3 = 2 by omega) with hp | hp | hp
        · go_wp2_with fail
          go_meet
          case rel => exact ⟨⟨9, 9 + pl, rfl, congrArg (Value.int .i64) (by omega), .inl ⟨rfl, rfl⟩⟩, rfl⟩
        · go_wp2_with fail
          go_meet
          case rel => exact ⟨⟨9 + pl, 13 + pl, congrArg (Value.int .i64) (by omega), congrArg (Value.int .i64) (by omega), .inr (.inl ⟨rfl, rfl⟩)⟩, rfl⟩
        · go_wp2_with fail
          go_meet
          case rel => exact ⟨⟨0, 4, rfl, rfl, .inr (.inr ⟨rfl, rfl⟩)⟩, rfl⟩
      case rest =>
      obtain ⟨⟨fr, til, rfl, rfl, hpt⟩, rfl⟩ := hcut
      have hfr1 : fr ≤ til := by unfold Part at hpt; omega
      have hfr2 : til ≤ 13 + pl := by unfold Part at hpt; omega
      have HPT := Aside0.mk hpt
      clear hpt
      by_cases hneg : at_ < 0
      case pos =>
        go_wp2_with (go_at_call 5; go_loud (refine (X.out.A _ HB.out).mono ?_); rintro e w4 ⟨rfl, hb⟩; have HB4 := Aside0.mk (below_step HB.out hb); clear hb)
        all_goals (go_ret; exact ⟨rfl, HB4.out⟩)
      obtain ⟨a, rfl⟩ := Int.eq_ofNat_of_zero_le (show 0 ≤ at_ by omega)
      clear hneg
      by_cases h3 : (a : Int) < 8 * ((til : Int) - (fr : Int))
      case neg =>
        go_wp2_with (go_at_call 5; go_loud (refine (X.out.A _ HB.out).mono ?_); rintro e w4 ⟨rfl, hb⟩; have HB4 := Aside0.mk (below_step HB.out hb); clear hb)
        all_goals (go_ret; exact ⟨rfl, HB4.out⟩)
      have htf : (fr : Int) < (til : Int) := by omega
      have htf2 : ¬ til ≤ fr := by omega
      have ha0 : (0 : Int) ≤ (a : Int) := by omega
      have hge : ¬ 8 * ((til : Int) - (fr : Int)) ≤ (a : Int) := by omega
      have hcv := fun w => Lib.run_convert_string_bytes (P := Tryz.prog) w 9 44 5 f Tryz.underlying9 Tryz.underlying44 Tryz.underlying5
      have R0 : Hid (Inv w wc.heap.size (Lib.bytesWorld wc 5 f) f (8 * fr + a) (8 * til) 0 f.data.toList) := Lib.hid ⟨by omega, by rw [size_list], BRow.new wc f, fun _ _ => rfl, below_step HB.out (below_new wc f), HB.out.size⟩
      go_wp2_with fail
      clear hcv
      generalize Lib.bytesWorld wc 5 f = w2 at *
      obtain ⟨c0, hc0⟩ : ∃ c0, c0 = grownCap wc f.size 0 5 := ⟨_, rfl⟩
      rw [← hc0]
      clear hc0
      obtain ⟨g, hg⟩ : ∃ g, g = wc.heap.size := ⟨_, rfl⟩
      rw [← hg] at R0 ⊢
      clear hg HB
      go_loopw [84] (fun i wr => ∃ (k : Nat) (m : List UInt8), i = .int .i64 k ∧ Hid (Inv w g wr f (8 * fr + a) (8 * til) k m)) (fun i _ => 32 - (intOf i).toNat)
      case atStart => exact ⟨0, f.data.toList, rfl, R0⟩
      case round =>
        clear R0
        obtain ⟨k, m, rfl, hI⟩ := hrel
        obtain ⟨hk, hm, hrow, hbits, hbel, hge⟩ := hI.out
        have HR := Aside0.mk hrow
        have HM := Lib.hid hm
        clear hbel hrow hbits hm hge
        by_cases hlt : k < 32
        · have hcell : (8 * fr + a + k) / 8 < f.size → wr.cell? ⟨g, (8 * fr + a + k) / 8, none⟩ = some (.int .u8 ((m.getD ((8 * fr + a + k) / 8) 0).toNat : Nat)) := fun h => HR.out.cell _ (by rw [HM.out]; exact h)
          have hfree : (8 * fr + a + k) / 8 < f.size → wr.frozen? ⟨g, (8 * fr + a + k) / 8, none⟩ = false := fun h => HR.out.free _ (by rw [HM.out]; exact h)
          go_wp2_with fail
          · have hj0 : 8 * fr + a + k < 8 * til := by omega
            have hj : (8 * fr + a + k) / 8 < f.size := by omega
            have hc := hcell hj
            have hfr := hfree hj
            clear hcell hfree
            go_region
            go_wp2_with fail
            go_roundw
            case rel => exact ⟨k + 1, Bits.flip m (8 * fr + a + k), num_next k, Lib.hid (hI.out.turn hlt _ (by omega) hj0 (by omega))⟩
            case measure => simp [intOf]; omega
          · go_roundw
            case rel => exact ⟨k + 1, m, num_next k, Lib.hid (hI.out.keep hlt)⟩
            case measure => simp [intOf]; omega
          · go_roundw
            case rel => exact ⟨k + 1, m, num_next k, Lib.hid (hI.out.keep hlt)⟩
            case measure => simp [intOf]; omega
        · obtain ⟨hk2, hm, hrow, hbits, hbel, hge⟩ := hI.out
          have HB := Aside0.mk hbel
          have hzm := tx_size m
          have hct : ∀ (W : World), W.heap[g]? = wr.heap[g]? → (convert 44 9 (.slice (some ⟨g, 0, none⟩) f.size c0)).run Tryz.prog W = .ok (.string (tx m)) W := by
            intro W hW
            have hr : BRow W g m := by
              obtain ⟨tail, c, h1, h2⟩ := hrow
              exact ⟨tail, c, by rw [hW]; exact h1, h2⟩
            rw [← hm]
            exact hr.text (by omega) c0
          have hct0 := hct wr rfl
          have hglt : g < wr.heap.size := by
            obtain ⟨tail, c, h1, h2⟩ := hrow
            exact lt_of_blk h1
          have XL := Aside0.mk (X.out.L m fr til (8 * fr + a) hm HPT.out (by omega) hbits)
          have HCT := Lib.hid hct
          clear hct hbits hrow hbel hzm hm
          go_wp2_with fail
          refine (XL.out _ HB.out).mono ?_
          rintro e w3 ⟨n, u, v, er, rfl, he, hb⟩
          have HB2 := Aside0.mk (below_step HB.out hb)
          have hg3 : g < w3.heap.size := Nat.lt_of_lt_of_le hglt hb.size
          have hw3 : w3.heap[g]? = wr.heap[g]? := hb.block g hglt
          have HE := Aside0.mk he
          clear hb HB he XL
          go_wp2_with fail
          refine (X.out.A _ HB2.out).mono ?_
          rintro e w4 ⟨rfl, hb⟩
          have HB := Aside0.mk (below_step HB2.out hb)
          have hw4 : w4.heap[g]? = wr.heap[g]? := (hb.block g hg3).trans hw3
          have hct4 := HCT.out w4 hw4
          clear hb HB2 hw3 hw4 hct0
          by_cases h0 : er = 0
          · have h5 : ((tx m).toList == f.toList) = true := by rw [beq_iff_eq]; exact Crc.eq_toList.2 (HE.out.1 h0)
            subst h0
            clear HE
            go_wp2_with fail
            go_ret
            exact ⟨rfl, HB.out⟩
          · have h6 : (er == 0) = false := by rw [beq_eq_false_iff_ne]; exact h0
            have h5 : ((tx m).toList == f.toList) = false := by rw [beq_eq_false_iff_ne]; exact fun h => h0 (HE.out.2 (Crc.eq_toList.1 h))
            clear HE h0
            go_wp2_with fail
            go_ret
            exact ⟨rfl, HB.out⟩
/-- Where the state is not small. -/
theorem out_small (sq : Nat) (A : Option Addr) (nl c : Nat) (cut at_ pat part : Int) (w : World) (S : Aside0 (∀ W, Below w.heap.size w W → Calls Tryz.prog 11 #[.agg #[.int .u64 (sq : Int), .slice A nl c]] W fun e w' => e = .returned (.bool false) ∧ Below W.heap.size W w')) (XA : Aside0 (∀ W, Below w.heap.size w W → Calls Tryz.prog 5 #[] W (TrueP W))) :
    Calls Tryz.prog 4 #[.agg #[.int .u64 (sq : Int), .slice A nl c], .int .i64 cut, .int .i64 at_, .int .u32 pat, .int .u8 part] w (TrueP w) := by
  have HB := Aside0.mk (below_alloc (Below.refl w.heap.size w) (.cells #[.int .u64 (sq : Int), .slice A nl c] 28))
  go_enter Tryz.func4, Tryz.ntmps4
  go_wp2_with (first | (go_at_call 11; (refine (S.out _ HB.out).mono ?_); rintro e w1 ⟨rfl, hb⟩; replace HB := Aside0.mk (below_step HB.out hb); clear hb) | (go_at_call 5; (refine (XA.out _ HB.out).mono ?_); rintro e w4 ⟨rfl, hb⟩; replace HB := Aside0.mk (below_step HB.out hb); clear hb))
  go_ret
  exact ⟨rfl, HB.out⟩
/-- Where the state is refused. -/
theorem out_three (sq : Nat) (A : Option Addr) (nl c : Nat) (f : ByteArray) (er : Int) (he : er ≠ 0) (cut at_ pat part : Int) (w : World) (S : Aside0 (∀ W, Below w.heap.size w W → Calls Tryz.prog 11 #[.agg #[.int .u64 (sq : Int), .slice A nl c]] W fun e w' => e = .returned (.bool true) ∧ Below W.heap.size W w'))
    (T : Aside0 (∀ W, Below w.heap.size w W → Calls Tryz.prog 12 #[.agg #[.int .u64 (sq : Int), .slice A nl c]] W fun e w' => e = .returned (.tuple #[.string f, .int .i64 er]) ∧ Below W.heap.size W w')) (XA : Aside0 (∀ W, Below w.heap.size w W → Calls Tryz.prog 5 #[] W (TrueP W))) :
    Calls Tryz.prog 4 #[.agg #[.int .u64 (sq : Int), .slice A nl c], .int .i64 cut, .int .i64 at_, .int .u32 pat, .int .u8 part] w (TrueP w) := by
  have HB := Aside0.mk (below_alloc (Below.refl w.heap.size w) (.cells #[.int .u64 (sq : Int), .slice A nl c] 28))
  have HX := Aside0.mk (blk_new w (.cells #[.int .u64 (sq : Int), .slice A nl c] 28))
  have hz1 : (er != 0) = true := bne_iff_ne.2 he
  have hz0 : (er == 0) = false := beq_eq_false_iff_ne.2 he
  clear he
  go_enter Tryz.func4, Tryz.ntmps4
  go_wp2_with (first | (go_at_call 11; (refine (S.out _ HB.out).mono ?_); rintro e w1 ⟨rfl, hb⟩; replace HB := Aside0.mk (below_step HB.out hb); replace HX := Aside0.mk (blk_below HX.out hb); clear hb; obtain ⟨x0, x1⟩ := box_cells (w := w) HX.out) | (go_at_call 12; (refine (T.out _ HB.out).mono ?_); rintro e w2 ⟨rfl, hb⟩; replace HB := Aside0.mk (below_step HB.out hb); clear hb x0 x1 HX) | (go_at_call 5; (refine (XA.out _ HB.out).mono ?_); rintro e w4 ⟨rfl, hb⟩; replace HB := Aside0.mk (below_step HB.out hb); clear hb))
  go_ret
  exact ⟨rfl, HB.out⟩
/-- The law, for every state that a row reads. -/
theorem law.calls (sq : Nat) (A : Option Addr) (c : Nat) (l : List S94) (cut at_ pat part : Int) (w : World) (hT : Tabs w) (hsq : sq < 18446744073709551616) (hC : k94.C w A l.length l) (hc : l.length ≤ c) (hl : l.length ≤ 140737488351232) (hs : ∀ p ∈ l, SmP p) (hp0 : 0 ≤ part) :
    Calls Tryz.prog 4 #[.agg #[.int .u64 (sq : Int), .slice A l.length c], .int .i64 cut, .int .i64 at_, .int .u32 pat, .int .u8 part] w (TrueP w) := by
  have hl2 : l.length ≤ 140737488355328 := Nat.le_trans hl (by decide)
  have HC : ∀ W, Below w.heap.size w W → k94.C W A l.length l := fun W hb => Kd.C_below hC hb
  have XA : Aside0 (∀ W, Below w.heap.size w W → Calls Tryz.prog 5 #[] W (TrueP W)) := Aside0.mk (fun W hb => awake21.calls W (hT.below hb))
  obtain ⟨r, hS⟩ := cSmall sq A c l hc hl2 hs
  have S : Aside0 (∀ W, Below w.heap.size w W → Calls Tryz.prog 11 #[.agg #[.int .u64 (sq : Int), .slice A l.length c]] W fun e w' => e = .returned (.bool r) ∧ Below W.heap.size W w') := Aside0.mk (fun W hb => hS W (HC W hb))
  have T : Aside0 (∀ W, Below w.heap.size w W → Calls Tryz.prog 12 #[.agg #[.int .u64 (sq : Int), .slice A l.length c]] W fun x w' => x = .returned (.tuple #[.string (tx (threeP sq l).1), .int .i64 (threeP sq l).2]) ∧ Below W.heap.size W w') := Aside0.mk (fun W hb => ckpt_Three.calls sq A c l W (hT.below hb) (HC W hb) hc hs hl2)
  cases r with
  | false => exact out_small sq A l.length c cut at_ pat part w S XA
  | true =>
    by_cases he : (threeP sq l).2 = 0
    · obtain ⟨h0, h1, h2⟩ := three_ok sq l he
      have hfl := frameOf_length 3 (stateB sq l)
      rw [he, h2] at T
      refine core sq A l.length c (tx (frameOf 3 (stateB sq l))) (stateB sq l).length cut at_ pat part w (Aside0.mk ⟨S.out, T.out, fun n hn W => load_cut sq l h1 n hn W, ?_, XA.out⟩) (by rw [tx_size]; omega) h1 hp0
      intro m fr til lo hm hpt hlo hbits W hb
      rw [tx_size] at hm
      rw [tx_list] at hbits
      refine (load_turned sq l hsq h0 h1 m (by omega) (frame_burst 3 (by decide) _ h1 m hm fr til lo hpt hlo hbits) W (hT.below hb)).mono ?_
      rintro e w' ⟨n, u, v, cc, rfl, hcc, hb2⟩
      refine ⟨n, u, v, cc, rfl, hcc.trans ⟨fun h => by rw [h], fun h => ?_⟩, hb2⟩
      have := congrArg (fun s : ByteArray => s.data.toList) h
      simpa [tx_list] using this
    · exact out_three sq A l.length c _ _ he cut at_ pat part w S T XA
end Go.Proofs.YtlmeelmjodjfpaaGreatDoor.PB
end
