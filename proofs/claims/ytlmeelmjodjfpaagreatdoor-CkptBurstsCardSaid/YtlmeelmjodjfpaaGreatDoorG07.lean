/- CkptBursts, part 8 of 24 of its proof: for every input that meets the row's condition (laid, tied) the call returns true and each argument reads behind it as before. -/
import Derived.Test.YtlmeelmjodjfpaaGreatDoorG02
import Derived.Test.YtlmeelmjodjfpaaGreatDoorG06
import Derived.Test.YtlmeelmjodjfpaaGreatDoorG03
import Derived.Test.YtlmeelmjodjfpaaGreatDoorG04
section
namespace Go.Proofs.YtlmeelmjodjfpaaGreatDoor.PB
open Go.RowKit Go.Proofs.YtlmeelmjodjfpaaGreatDoorW.PrintWords Go.Proofs.YtlmeelmjodjfpaaGreatDoorW.PrintLast Go.Proofs.YtlmeelmjodjfpaaGreatDoorW.PrintMore
attribute [local go_sem] max2_int min2_int max_two min_two max_three min_three max_four min_four   -- for this text's walks alone
set_option linter.unusedVariables false
set_option linter.unusedSimpArgs false
mutual
def dns_Image.j0 : Nat → ByteArray → Bool → Option (Bool)
  | 0, _, _ => none
  | k + 1, x0, x22 => if x22 = true then (some false) else (dns_Image.l0 k x0 (x0.size : Int) 0)
def dns_Image.l0 : Nat → ByteArray → Int → Int → Option (Bool)
  | 0, _, _, _ => none
  | k + 1, x0, x24, x25 => if x25 < x24 then (if 0 ≤ x25 then (if x25 < (x0.size : Int) then ((dns_small.f (bt x0 x25)).bind fun t109 => (if t109 = true then (dns_Image.l0 k x0 x24 (wrap64 (x25 + 1))) else ((dns_great.f (bt x0 x25)).bind fun t110 => (if t110 = true then (dns_Image.l0 k x0 x24 (wrap64 (x25 + 1))) else ((dns_digit.f (bt x0 x25)).bind fun t111 => (if t111 = true then (dns_Image.l0 k x0 x24 (wrap64 (x25 + 1))) else ((strings_IndexByte.f (⟨#[46, 95, 45, 47, 58, 64]⟩ : ByteArray) (bt x0 x25)).bind fun t112 => (if t112 < 0 then (some false) else (dns_Image.l0 k x0 x24 (wrap64 (x25 + 1))))))))))) else (none)) else (none)) else (some true)
end
def dns_Image.f (k : Nat) (a0 : ByteArray) : Option (Bool) := if a0.toList = ([] : List UInt8) then (dns_Image.j0 k a0 true) else (if (a0.size : Int) > 255 then (dns_Image.j0 k a0 true) else (if 0 < (a0.size : Int) then ((dns_small.f (bt a0 0)).bind fun t107 => (if t107 = true then (dns_Image.j0 k a0 false) else ((dns_digit.f (bt a0 0)).bind fun t108 => (dns_Image.j0 k a0 (!t108))))) else (none)))
set_option maxHeartbeats 8000000 in
set_option maxRecDepth 100000 in
theorem dns_Image.calls (k : Nat) (a0 : ByteArray) (r : Bool) (w : World) (h : dns_Image.f k a0 = some r) :
    Calls Tryz.prog 92 #[.string a0] w fun e w' => e = .returned (.bool r) ∧ Drawn0 w w' := by
  have H : (if a0.toList = ([] : List UInt8) then (dns_Image.j0 k a0 true) else (if (a0.size : Int) > 255 then (dns_Image.j0 k a0 true) else (if 0 < (a0.size : Int) then ((dns_small.f (bt a0 0)).bind fun t107 => (if t107 = true then (dns_Image.j0 k a0 false) else ((dns_digit.f (bt a0 0)).bind fun t108 => (dns_Image.j0 k a0 (!t108))))) else (none)))) = some r := h
  clear h
  have HC2 := Aside0.mk H
  clear H
  go_enter Tryz.func92, Tryz.ntmps92
  go_upto_region 1 with (fail)
  go_cut [22] (fun v22 wc => ∃ (kq : Nat) (x22_1 : Bool), v22 = .bool x22_1 ∧ Aside0 (dns_Image.j0 kq a0 x22_1 = some r) ∧ Aside0 (kq ≤ k) ∧ Drawn0 w wc)
  case first =>
    have H := HC2.out
    clear HC2
    by_cases c3 : a0.toList = ([] : List UInt8)
    · rw [if_pos c3] at H
      have c3b0 : (a0.toList == ([] : List UInt8)) = true := beq_iff_eq.mpr c3
      have c3b1 : (a0.toList != ([] : List UInt8)) = false := bne_eq_false_iff_eq.mpr c3
      clear c3
      (first | rw [c3b0] | (simp only [i64_w, i32_w]; rw [c3b0]) | skip)
      have H' := Aside0.mk H
      clear H
      go_wp2
      go_meet
      case rel => exact ⟨_, (true), (by first | rfl | (simp; done) | (simp [*]; done)), H', ⟨by first | omega | exact Nat.le_refl _⟩, by repeat (first | exact Drawn0.refl _ | apply Drawn0.step)⟩
    · rw [if_neg c3] at H
      have c3b0 : (a0.toList == ([] : List UInt8)) = false := beq_eq_false_iff_ne.mpr c3
      have c3b1 : (a0.toList != ([] : List UInt8)) = true := bne_iff_ne.mpr c3
      (first | rw [c3b0] | (simp only [i64_w, i32_w]; rw [c3b0]) | skip)
      by_cases c4 : (a0.size : Int) > 255
      · rw [if_pos c4] at H
        have c4b0 : decide (255 < (a0.size : Int)) = true := decide_eq_true c4
        have c4b1 : decide (255 < a0.size) = true := decide_eq_true (by omega)
        clear c4
        have H' := Aside0.mk H
        clear H
        go_wp2
        go_meet
        case rel => exact ⟨_, (true), (by first | rfl | (simp; done) | (simp [*]; done)), H', ⟨by first | omega | exact Nat.le_refl _⟩, by repeat (first | exact Drawn0.refl _ | apply Drawn0.step)⟩
      · rw [if_neg c4] at H
        have c4b0 : decide (255 < (a0.size : Int)) = false := decide_eq_false c4
        have c4b1 : decide (255 < a0.size) = false := decide_eq_false (by omega)
        clear c4
        by_cases c5 : 0 < (a0.size : Int)
        · rw [if_pos c5] at H
          have c5b0 : decide (0 < (a0.size : Int)) = true := decide_eq_true c5
          have c5b1 : decide (0 < a0.size) = true := decide_eq_true (by omega)
          clear c5
          replace H := Option.bind_eq_some_iff.mp H
          obtain ⟨t107, A70, H⟩ := H
          replace H : (if t107 = true then (dns_Image.j0 k a0 false) else ((dns_digit.f (bt a0 0)).bind fun t108 => (dns_Image.j0 k a0 (!t108)))) = some r := H
          have A7 := Aside0.mk A70
          clear A70
          by_cases c8 : t107 = true
          · subst c8
            have H1 : (dns_Image.j0 k a0 false) = some r := by rw [if_pos rfl] at H; exact H
            clear H
            have H := H1
            clear H1
            have H' := Aside0.mk H
            clear H
            have p6 : 0 ≤ (0 : Int) := (by omega)
            have q6 : 0 < a0.size := (by have : (0 : Int) < (a0.size : Int) := of_decide_eq_true (by first | (with_reducible assumption) | assumption); omega)
            have hx6 : ∀ h : 0 < a0.size, ((a0[0]'h).toNat : Int) = bt a0 0 := bt_at a0 0
            clear p6
            have qi6 : (0 < (a0.size : Int)) = True := eq_true (of_decide_eq_true (by first | (with_reducible assumption) | assumption))
            replace q6 := eq_true q6
            go_wp2_with (first | (go_at_call 117; (with_reducible refine (dns_small.calls (bt a0 0) true _ A7.out).mono ?_); rintro e w' ⟨rfl, ⟨nd, rfl⟩⟩))
            go_meet
            case rel => exact ⟨_, (false), (by first | rfl | (simp; done) | (simp [*]; done)), H', ⟨by first | omega | exact Nat.le_refl _⟩, by repeat (first | exact Drawn0.refl _ | apply Drawn0.step)⟩
          · replace c8 := Bool.eq_false_iff.mpr c8
            subst c8
            have H1 : ((dns_digit.f (bt a0 0)).bind fun t108 => (dns_Image.j0 k a0 (!t108))) = some r := by rw [if_neg (show ¬ (false = true) by decide)] at H; exact H
            clear H
            have H := H1
            clear H1
            replace H := Option.bind_eq_some_iff.mp H
            obtain ⟨t108, A100, H⟩ := H
            replace H : (dns_Image.j0 k a0 (!t108)) = some r := H
            have A10 := Aside0.mk A100
            clear A100
            have H' := Aside0.mk H
            clear H
            have p6 : 0 ≤ (0 : Int) := (by omega)
            have q6 : 0 < a0.size := (by have : (0 : Int) < (a0.size : Int) := of_decide_eq_true (by first | (with_reducible assumption) | assumption); omega)
            have hx6 : ∀ h : 0 < a0.size, ((a0[0]'h).toNat : Int) = bt a0 0 := bt_at a0 0
            clear p6
            have qi6 : (0 < (a0.size : Int)) = True := eq_true (of_decide_eq_true (by first | (with_reducible assumption) | assumption))
            replace q6 := eq_true q6
            go_wp2_with (first | (go_at_call 117; (with_reducible refine (dns_small.calls (bt a0 0) false _ A7.out).mono ?_); rintro e w' ⟨rfl, ⟨nd, rfl⟩⟩; have p9 : 0 ≤ (0 : Int) := (by omega); have q9 : 0 < a0.size := (by have : (0 : Int) < (a0.size : Int) := of_decide_eq_true (by first | (with_reducible assumption) | assumption); omega); have hx9 : ∀ h : 0 < a0.size, ((a0[0]'h).toNat : Int) = bt a0 0 := bt_at a0 0; clear p9; have qi9 : (0 < (a0.size : Int)) = True := eq_true (of_decide_eq_true (by first | (with_reducible assumption) | assumption)); replace q9 := eq_true q9) | (go_at_call 118; (with_reducible refine (dns_digit.calls (bt a0 0) t108 _ A10.out).mono ?_); rintro e w' ⟨rfl, ⟨nd, rfl⟩⟩))
            go_meet
            case rel => exact ⟨_, (!t108), (by first | rfl | (simp; done) | (simp [*]; done)), H', ⟨by first | omega | exact Nat.le_refl _⟩, by repeat (first | exact Drawn0.refl _ | apply Drawn0.step)⟩
        · rw [if_neg c5] at H
          exact absurd H (by simp)
  case rest =>
    clear HC2
    try clear p2
    try clear c3
    try clear c3b0
    try clear c3b1
    try clear c4
    try clear c4b0
    try clear c4b1
    try clear c5
    try clear c5b0
    try clear c5b1
    try clear p6
    try clear q6
    try clear hx6
    try clear qi6
    try clear c8
    try clear c9
    try clear p9
    try clear q9
    try clear hx9
    try clear qi9
    try clear p6
    try clear p9
    try clear q6
    try clear q9
    obtain ⟨kq, x22_1, rfl, HA, HJ1, ⟨mc1, rfl⟩⟩ := hcut
    cases kq with
    | zero => exact absurd HA.out (by simp [dns_Image.j0])
    | succ kj1 =>
      have H := HA.out
      clear HA
      simp only [dns_Image.j0] at H
      by_cases c11 : x22_1 = true
      · subst c11
        have H1 : (some false) = some r := by rw [if_pos rfl] at H; exact H
        clear H
        have H := H1
        clear H1
        obtain rfl := Option.some.inj H
        go_wp2
        go_ret
        exact ⟨by first | rfl | (simp; done) | (simp [*]; done), by repeat (first | exact Drawn0.refl _ | apply Drawn0.step)⟩
      · replace c11 := Bool.eq_false_iff.mpr c11
        subst c11
        have H1 : (dns_Image.l0 kj1 a0 (a0.size : Int) 0) = some r := by rw [if_neg (show ¬ (false = true) by decide)] at H; exact H
        clear H
        have H := H1
        clear H1
        have H' := Aside0.mk H
        clear H
        go_wp2
        go_loopg [25] kj1 (fun kq v25 w' => ∃ (x25_2 : Int), v25 = .int .i64 x25_2 ∧ Aside0 (dns_Image.l0 kq a0 (a0.size : Int) x25_2 = some r) ∧ Aside0 (kq ≤ kj1) ∧ Drawn0 w w')
        case atStart => exact ⟨(0), (by first | rfl | (simp; done) | (simp [*]; done)), H', ⟨Nat.le_refl _⟩, by repeat (first | exact Drawn0.refl _ | apply Drawn0.step)⟩
        case round =>
          clear H'
          try clear c1
          try clear p2
          try clear c3
          try clear c3b0
          try clear c3b1
          try clear c4
          try clear c4b0
          try clear c4b1
          try clear c5
          try clear c5b0
          try clear c5b1
          try clear p6
          try clear q6
          try clear hx6
          try clear qi6
          try clear c8
          try clear c9
          try clear p9
          try clear q9
          try clear hx9
          try clear qi9
          try clear c11
          try clear p2
          try clear p6
          try clear p9
          try clear q6
          try clear q9
          obtain ⟨x25_2, rfl, HA, HK2, ⟨m2, rfl⟩⟩ := hrel
          cases gk with
          | zero => exact absurd HA.out (by simp [dns_Image.l0])
          | succ k2 =>
            have H := HA.out
            clear HA
            simp only [dns_Image.l0] at H
            by_cases c12 : x25_2 < (a0.size : Int)
            · rw [if_pos c12] at H
              have c12b0 : decide (x25_2 < (a0.size : Int)) = true := decide_eq_true c12
              clear c12
              by_cases c13 : 0 ≤ x25_2
              · rw [if_pos c13] at H
                have c13b0 : decide (0 ≤ x25_2) = true := decide_eq_true c13
                clear c13
                by_cases c14 : x25_2 < (a0.size : Int)
                · rw [if_pos c14] at H
                  have c14b0 : decide (x25_2 < (a0.size : Int)) = true := decide_eq_true c14
                  clear c14
                  replace H := Option.bind_eq_some_iff.mp H
                  obtain ⟨t109, A160, H⟩ := H
                  replace H : (if t109 = true then (dns_Image.l0 k2 a0 (a0.size : Int) (wrap64 (x25_2 + 1))) else ((dns_great.f (bt a0 x25_2)).bind fun t110 => (if t110 = true then (dns_Image.l0 k2 a0 (a0.size : Int) (wrap64 (x25_2 + 1))) else ((dns_digit.f (bt a0 x25_2)).bind fun t111 => (if t111 = true then (dns_Image.l0 k2 a0 (a0.size : Int) (wrap64 (x25_2 + 1))) else ((strings_IndexByte.f (⟨#[46, 95, 45, 47, 58, 64]⟩ : ByteArray) (bt a0 x25_2)).bind fun t112 => (if t112 < 0 then (some false) else (dns_Image.l0 k2 a0 (a0.size : Int) (wrap64 (x25_2 + 1)))))))))) = some r := H
                  have A16 := Aside0.mk A160
                  clear A160
                  by_cases c17 : t109 = true
                  · subst c17
                    have H1 : (dns_Image.l0 k2 a0 (a0.size : Int) (wrap64 (x25_2 + 1))) = some r := by rw [if_pos rfl] at H; exact H
                    clear H
                    have H := H1
                    clear H1
                    have H' := Aside0.mk H
                    clear H
                    have p15 : 0 ≤ (x25_2 : Int) := of_decide_eq_true (by first | (with_reducible assumption) | assumption)
                    have q15 : x25_2 < (a0.size : Int) := of_decide_eq_true (by first | (with_reducible assumption) | assumption)
                    have hx15 := bt_at a0 x25_2
                    replace p15 := eq_true p15
                    replace q15 := eq_true q15
                    go_wp2_with (first | ((with_reducible refine gate_callee (f := 117) rfl ?_); refine goesL_ (some 31) rfl rfl Tryz.func117 (by kernel_rfl) rfl #[.int .u8 (bt a0 x25_2)] rfl (by (try simp only [List.map_toArray, List.map_cons, List.map_nil]); first | done | rfl | (simp only [List.length_drop, List.length_take]; rfl) | (simp (disch := ((try simp only [decide_eq_true_eq, decide_eq_false_iff_not] at *); omega)) only [IntWalk.u64_in, IntWalk.u32_in, IntWalk.u16_in, IntWalk.u8_in, IntWalk.i64_in] <;> rfl)) ?_; (with_reducible refine (dns_small.calls (bt a0 x25_2) true _ A16.out).mono ?_); rintro e w' ⟨rfl, ⟨nd, rfl⟩⟩; refine ⟨_, rfl, ?_⟩))
                    go_roundg k2
                    case measure => have := HJ1.out; have := HK2.out; omega
                    case rel => exact ⟨(wrap64 (x25_2 + 1)), (by first | rfl | (simp; done) | (simp [*]; done)), H', ⟨by have := HJ1.out; have := HK2.out; omega⟩, by repeat (first | exact Drawn0.refl _ | apply Drawn0.step)⟩
                  · replace c17 := Bool.eq_false_iff.mpr c17
                    subst c17
                    have H1 : ((dns_great.f (bt a0 x25_2)).bind fun t110 => (if t110 = true then (dns_Image.l0 k2 a0 (a0.size : Int) (wrap64 (x25_2 + 1))) else ((dns_digit.f (bt a0 x25_2)).bind fun t111 => (if t111 = true then (dns_Image.l0 k2 a0 (a0.size : Int) (wrap64 (x25_2 + 1))) else ((strings_IndexByte.f (⟨#[46, 95, 45, 47, 58, 64]⟩ : ByteArray) (bt a0 x25_2)).bind fun t112 => (if t112 < 0 then (some false) else (dns_Image.l0 k2 a0 (a0.size : Int) (wrap64 (x25_2 + 1))))))))) = some r := by rw [if_neg (show ¬ (false = true) by decide)] at H; exact H
                    clear H
                    have H := H1
                    clear H1
                    replace H := Option.bind_eq_some_iff.mp H
                    obtain ⟨t110, A190, H⟩ := H
                    replace H : (if t110 = true then (dns_Image.l0 k2 a0 (a0.size : Int) (wrap64 (x25_2 + 1))) else ((dns_digit.f (bt a0 x25_2)).bind fun t111 => (if t111 = true then (dns_Image.l0 k2 a0 (a0.size : Int) (wrap64 (x25_2 + 1))) else ((strings_IndexByte.f (⟨#[46, 95, 45, 47, 58, 64]⟩ : ByteArray) (bt a0 x25_2)).bind fun t112 => (if t112 < 0 then (some false) else (dns_Image.l0 k2 a0 (a0.size : Int) (wrap64 (x25_2 + 1)))))))) = some r := H
                    have A19 := Aside0.mk A190
                    clear A190
                    by_cases c20 : t110 = true
                    · subst c20
                      have H1 : (dns_Image.l0 k2 a0 (a0.size : Int) (wrap64 (x25_2 + 1))) = some r := by rw [if_pos rfl] at H; exact H
                      clear H
                      have H := H1
                      clear H1
                      have H' := Aside0.mk H
                      clear H
                      have p15 : 0 ≤ (x25_2 : Int) := of_decide_eq_true (by first | (with_reducible assumption) | assumption)
                      have q15 : x25_2 < (a0.size : Int) := of_decide_eq_true (by first | (with_reducible assumption) | assumption)
                      have hx15 := bt_at a0 x25_2
                      replace p15 := eq_true p15
                      replace q15 := eq_true q15
                      go_wp2_with (first | ((with_reducible refine gate_callee (f := 117) rfl ?_); refine goesL_ (some 31) rfl rfl Tryz.func117 (by kernel_rfl) rfl #[.int .u8 (bt a0 x25_2)] rfl (by (try simp only [List.map_toArray, List.map_cons, List.map_nil]); first | done | rfl | (simp only [List.length_drop, List.length_take]; rfl) | (simp (disch := ((try simp only [decide_eq_true_eq, decide_eq_false_iff_not] at *); omega)) only [IntWalk.u64_in, IntWalk.u32_in, IntWalk.u16_in, IntWalk.u8_in, IntWalk.i64_in] <;> rfl)) ?_; (with_reducible refine (dns_small.calls (bt a0 x25_2) false _ A16.out).mono ?_); rintro e w' ⟨rfl, ⟨nd, rfl⟩⟩; refine ⟨_, rfl, ?_⟩; have p18 : 0 ≤ (x25_2 : Int) := of_decide_eq_true (by first | (with_reducible assumption) | assumption); have q18 : x25_2 < (a0.size : Int) := of_decide_eq_true (by first | (with_reducible assumption) | assumption); have hx18 := bt_at a0 x25_2; replace p18 := eq_true p18; replace q18 := eq_true q18) | (go_at_call 119; (with_reducible refine (dns_great.calls (bt a0 x25_2) true _ A19.out).mono ?_); rintro e w' ⟨rfl, ⟨nd, rfl⟩⟩))
                      go_roundg k2
                      case measure => have := HJ1.out; have := HK2.out; omega
                      case rel => exact ⟨(wrap64 (x25_2 + 1)), (by first | rfl | (simp; done) | (simp [*]; done)), H', ⟨by have := HJ1.out; have := HK2.out; omega⟩, by repeat (first | exact Drawn0.refl _ | apply Drawn0.step)⟩
                    · replace c20 := Bool.eq_false_iff.mpr c20
                      subst c20
                      have H1 : ((dns_digit.f (bt a0 x25_2)).bind fun t111 => (if t111 = true then (dns_Image.l0 k2 a0 (a0.size : Int) (wrap64 (x25_2 + 1))) else ((strings_IndexByte.f (⟨#[46, 95, 45, 47, 58, 64]⟩ : ByteArray) (bt a0 x25_2)).bind fun t112 => (if t112 < 0 then (some false) else (dns_Image.l0 k2 a0 (a0.size : Int) (wrap64 (x25_2 + 1))))))) = some r := by rw [if_neg (show ¬ (false = true) by decide)] at H; exact H
                      clear H
                      have H := H1
                      clear H1
                      replace H := Option.bind_eq_some_iff.mp H
                      obtain ⟨t111, A220, H⟩ := H
                      replace H : (if t111 = true then (dns_Image.l0 k2 a0 (a0.size : Int) (wrap64 (x25_2 + 1))) else ((strings_IndexByte.f (⟨#[46, 95, 45, 47, 58, 64]⟩ : ByteArray) (bt a0 x25_2)).bind fun t112 => (if t112 < 0 then (some false) else (dns_Image.l0 k2 a0 (a0.size : Int) (wrap64 (x25_2 + 1)))))) = some r := H
                      have A22 := Aside0.mk A220
                      clear A220
                      by_cases c23 : t111 = true
                      · subst c23
                        have H1 : (dns_Image.l0 k2 a0 (a0.size : Int) (wrap64 (x25_2 + 1))) = some r := by rw [if_pos rfl] at H; exact H
                        clear H
                        have H := H1
                        clear H1
                        have H' := Aside0.mk H
                        clear H
                        have p15 : 0 ≤ (x25_2 : Int) := of_decide_eq_true (by first | (with_reducible assumption) | assumption)
                        have q15 : x25_2 < (a0.size : Int) := of_decide_eq_true (by first | (with_reducible assumption) | assumption)
                        have hx15 := bt_at a0 x25_2
                        replace p15 := eq_true p15
                        replace q15 := eq_true q15
                        go_wp2_with (first | ((with_reducible refine gate_callee (f := 117) rfl ?_); refine goesL_ (some 31) rfl rfl Tryz.func117 (by kernel_rfl) rfl #[.int .u8 (bt a0 x25_2)] rfl (by (try simp only [List.map_toArray, List.map_cons, List.map_nil]); first | done | rfl | (simp only [List.length_drop, List.length_take]; rfl) | (simp (disch := ((try simp only [decide_eq_true_eq, decide_eq_false_iff_not] at *); omega)) only [IntWalk.u64_in, IntWalk.u32_in, IntWalk.u16_in, IntWalk.u8_in, IntWalk.i64_in] <;> rfl)) ?_; (with_reducible refine (dns_small.calls (bt a0 x25_2) false _ A16.out).mono ?_); rintro e w' ⟨rfl, ⟨nd, rfl⟩⟩; refine ⟨_, rfl, ?_⟩; have p18 : 0 ≤ (x25_2 : Int) := of_decide_eq_true (by first | (with_reducible assumption) | assumption); have q18 : x25_2 < (a0.size : Int) := of_decide_eq_true (by first | (with_reducible assumption) | assumption); have hx18 := bt_at a0 x25_2; replace p18 := eq_true p18; replace q18 := eq_true q18) | (go_at_call 119; (with_reducible refine (dns_great.calls (bt a0 x25_2) false _ A19.out).mono ?_); rintro e w' ⟨rfl, ⟨nd, rfl⟩⟩; have p21 : 0 ≤ (x25_2 : Int) := of_decide_eq_true (by first | (with_reducible assumption) | assumption); have q21 : x25_2 < (a0.size : Int) := of_decide_eq_true (by first | (with_reducible assumption) | assumption); have hx21 := bt_at a0 x25_2; replace p21 := eq_true p21; replace q21 := eq_true q21) | (go_at_call 118; (with_reducible refine (dns_digit.calls (bt a0 x25_2) true _ A22.out).mono ?_); rintro e w' ⟨rfl, ⟨nd, rfl⟩⟩))
                        go_roundg k2
                        case measure => have := HJ1.out; have := HK2.out; omega
                        case rel => exact ⟨(wrap64 (x25_2 + 1)), (by first | rfl | (simp; done) | (simp [*]; done)), H', ⟨by have := HJ1.out; have := HK2.out; omega⟩, by repeat (first | exact Drawn0.refl _ | apply Drawn0.step)⟩
                      · replace c23 := Bool.eq_false_iff.mpr c23
                        subst c23
                        have H1 : ((strings_IndexByte.f (⟨#[46, 95, 45, 47, 58, 64]⟩ : ByteArray) (bt a0 x25_2)).bind fun t112 => (if t112 < 0 then (some false) else (dns_Image.l0 k2 a0 (a0.size : Int) (wrap64 (x25_2 + 1))))) = some r := by rw [if_neg (show ¬ (false = true) by decide)] at H; exact H
                        clear H
                        have H := H1
                        clear H1
                        replace H := Option.bind_eq_some_iff.mp H
                        obtain ⟨t112, A250, H⟩ := H
                        replace H : (if t112 < 0 then (some false) else (dns_Image.l0 k2 a0 (a0.size : Int) (wrap64 (x25_2 + 1)))) = some r := H
                        have A25 := Aside0.mk A250
                        clear A250
                        by_cases c26 : t112 < 0
                        · rw [if_pos c26] at H
                          have c26b0 : decide (t112 < 0) = true := decide_eq_true c26
                          clear c26
                          obtain rfl := Option.some.inj H
                          have p15 : 0 ≤ (x25_2 : Int) := of_decide_eq_true (by first | (with_reducible assumption) | assumption)
                          have q15 : x25_2 < (a0.size : Int) := of_decide_eq_true (by first | (with_reducible assumption) | assumption)
                          have hx15 := bt_at a0 x25_2
                          replace p15 := eq_true p15
                          replace q15 := eq_true q15
                          go_wp2_with (first | ((with_reducible refine gate_callee (f := 117) rfl ?_); refine goesL_ (some 31) rfl rfl Tryz.func117 (by kernel_rfl) rfl #[.int .u8 (bt a0 x25_2)] rfl (by (try simp only [List.map_toArray, List.map_cons, List.map_nil]); first | done | rfl | (simp only [List.length_drop, List.length_take]; rfl) | (simp (disch := ((try simp only [decide_eq_true_eq, decide_eq_false_iff_not] at *); omega)) only [IntWalk.u64_in, IntWalk.u32_in, IntWalk.u16_in, IntWalk.u8_in, IntWalk.i64_in] <;> rfl)) ?_; (with_reducible refine (dns_small.calls (bt a0 x25_2) false _ A16.out).mono ?_); rintro e w' ⟨rfl, ⟨nd, rfl⟩⟩; refine ⟨_, rfl, ?_⟩; have p18 : 0 ≤ (x25_2 : Int) := of_decide_eq_true (by first | (with_reducible assumption) | assumption); have q18 : x25_2 < (a0.size : Int) := of_decide_eq_true (by first | (with_reducible assumption) | assumption); have hx18 := bt_at a0 x25_2; replace p18 := eq_true p18; replace q18 := eq_true q18) | (go_at_call 119; (with_reducible refine (dns_great.calls (bt a0 x25_2) false _ A19.out).mono ?_); rintro e w' ⟨rfl, ⟨nd, rfl⟩⟩; have p21 : 0 ≤ (x25_2 : Int) := of_decide_eq_true (by first | (with_reducible assumption) | assumption); have q21 : x25_2 < (a0.size : Int) := of_decide_eq_true (by first | (with_reducible assumption) | assumption); have hx21 := bt_at a0 x25_2; replace p21 := eq_true p21; replace q21 := eq_true q21) | (go_at_call 118; (with_reducible refine (dns_digit.calls (bt a0 x25_2) false _ A22.out).mono ?_); rintro e w' ⟨rfl, ⟨nd, rfl⟩⟩; have p24 : 0 ≤ (x25_2 : Int) := of_decide_eq_true (by first | (with_reducible assumption) | assumption); have q24 : x25_2 < (a0.size : Int) := of_decide_eq_true (by first | (with_reducible assumption) | assumption); have hx24 := bt_at a0 x25_2; replace p24 := eq_true p24; replace q24 := eq_true q24) | (go_at_call 115; (with_reducible refine (strings_IndexByte.calls (⟨#[46, 95, 45, 47, 58, 64]⟩ : ByteArray) (bt a0 x25_2) t112 _ A25.out).mono ?_); rintro e w' ⟨rfl, ⟨nd, rfl⟩⟩))
                          go_ret
                          exact ⟨by first | rfl | (simp; done) | (simp [*]; done), by repeat (first | exact Drawn0.refl _ | apply Drawn0.step)⟩
                        · rw [if_neg c26] at H
                          have c26b0 : decide (t112 < 0) = false := decide_eq_false c26
                          clear c26
                          have H' := Aside0.mk H
                          clear H
                          have p15 : 0 ≤ (x25_2 : Int) := of_decide_eq_true (by first | (with_reducible assumption) | assumption)
                          have q15 : x25_2 < (a0.size : Int) := of_decide_eq_true (by first | (with_reducible assumption) | assumption)
                          have hx15 := bt_at a0 x25_2
                          replace p15 := eq_true p15
                          replace q15 := eq_true q15
                          go_wp2_with (first | ((with_reducible refine gate_callee (f := 117) rfl ?_); refine goesL_ (some 31) rfl rfl Tryz.func117 (by kernel_rfl) rfl #[.int .u8 (bt a0 x25_2)] rfl (by (try simp only [List.map_toArray, List.map_cons, List.map_nil]); first | done | rfl | (simp only [List.length_drop, List.length_take]; rfl) | (simp (disch := ((try simp only [decide_eq_true_eq, decide_eq_false_iff_not] at *); omega)) only [IntWalk.u64_in, IntWalk.u32_in, IntWalk.u16_in, IntWalk.u8_in, IntWalk.i64_in] <;> rfl)) ?_; (with_reducible refine (dns_small.calls (bt a0 x25_2) false _ A16.out).mono ?_); rintro e w' ⟨rfl, ⟨nd, rfl⟩⟩; refine ⟨_, rfl, ?_⟩; have p18 : 0 ≤ (x25_2 : Int) := of_decide_eq_true (by first | (with_reducible assumption) | assumption); have q18 : x25_2 < (a0.size : Int) := of_decide_eq_true (by first | (with_reducible assumption) | assumption); have hx18 := bt_at a0 x25_2; replace p18 := eq_true p18; replace q18 := eq_true q18) | (go_at_call 119; (with_reducible refine (dns_great.calls (bt a0 x25_2) false _ A19.out).mono ?_); rintro e w' ⟨rfl, ⟨nd, rfl⟩⟩; have p21 : 0 ≤ (x25_2 : Int) := of_decide_eq_true (by first | (with_reducible assumption) | assumption); have q21 : x25_2 < (a0.size : Int) := of_decide_eq_true (by first | (with_reducible assumption) | assumption); have hx21 := bt_at a0 x25_2; replace p21 := eq_true p21; replace q21 := eq_true q21) | (go_at_call 118; (with_reducible refine (dns_digit.calls (bt a0 x25_2) false _ A22.out).mono ?_); rintro e w' ⟨rfl, ⟨nd, rfl⟩⟩; have p24 : 0 ≤ (x25_2 : Int) := of_decide_eq_true (by first | (with_reducible assumption) | assumption); have q24 : x25_2 < (a0.size : Int) := of_decide_eq_true (by first | (with_reducible assumption) | assumption); have hx24 := bt_at a0 x25_2; replace p24 := eq_true p24; replace q24 := eq_true q24) | (go_at_call 115; (with_reducible refine (strings_IndexByte.calls (⟨#[46, 95, 45, 47, 58, 64]⟩ : ByteArray) (bt a0 x25_2) t112 _ A25.out).mono ?_); rintro e w' ⟨rfl, ⟨nd, rfl⟩⟩))
                          go_roundg k2
                          case measure => have := HJ1.out; have := HK2.out; omega
                          case rel => exact ⟨(wrap64 (x25_2 + 1)), (by first | rfl | (simp; done) | (simp [*]; done)), H', ⟨by have := HJ1.out; have := HK2.out; omega⟩, by repeat (first | exact Drawn0.refl _ | apply Drawn0.step)⟩
                · rw [if_neg c14] at H
                  exact absurd H (by simp)
              · rw [if_neg c13] at H
                exact absurd H (by simp)
            · rw [if_neg c12] at H
              have c12b0 : decide (x25_2 < (a0.size : Int)) = false := decide_eq_false c12
              clear c12
              obtain rfl := Option.some.inj H
              go_wp2
              go_ret
              exact ⟨by first | rfl | (simp; done) | (simp [*]; done), by repeat (first | exact Drawn0.refl _ | apply Drawn0.step)⟩
def spec_first.l0 : Nat → List Int → Int → Int → Option (Int)
  | 0, _, _, _ => none
  | k + 1, x5, x6, x7 => if x7 < x6 then (if 0 ≤ x7 then (if x7 < (x5.length : Int) then (if (rd x5 x7) = 0 then (spec_first.l0 k x5 x6 (wrap64 (x7 + 1))) else (some (rd x5 x7))) else (none)) else (none)) else (some 0)
def spec_first.f (k : Nat) (l0 : List Int) : Option (Int) := spec_first.l0 k l0 (l0.length : Int) 0
set_option maxHeartbeats 8000000 in
set_option maxRecDepth 100000 in
theorem spec_first.calls (k : Nat) (A0 : Option Addr) (c0 : Nat) (l0 : List Int) (r : Int) (w : World) (hr0 : Kd.C (Kd.int .i64) w A0 l0.length l0) (hc0 : l0.length ≤ c0) (h : spec_first.f k l0 = some r) :
    Calls Tryz.prog 120 #[.slice A0 l0.length c0] w fun e w' => e = .returned (.int .i64 r) ∧ Drawn0 w w' := by
  have HR0 := Aside0.mk hr0
  have HC0 := Aside0.mk hc0
  clear hr0 hc0
  have H : (spec_first.l0 k l0 (l0.length : Int) 0) = some r := h
  clear h
  have H' := Aside0.mk H
  clear H
  go_enter Tryz.func120, Tryz.ntmps120
  go_wp2
  go_loopg [7] k (fun kq v7 w' => ∃ (x7_1 : Int), v7 = .int .i64 x7_1 ∧ Aside0 (spec_first.l0 kq l0 (l0.length : Int) x7_1 = some r) ∧ Aside0 (kq ≤ k) ∧ Drawn0 w w')
  case atStart => exact ⟨(0), (by first | rfl | (simp; done) | (simp [*]; done)), H', ⟨Nat.le_refl _⟩, by repeat (first | exact Drawn0.refl _ | apply Drawn0.step)⟩
  case round =>
    clear H'
    try clear c1
    obtain ⟨x7_1, rfl, HA, HK1, ⟨m1, rfl⟩⟩ := hrel
    cases gk with
    | zero => exact absurd HA.out (by simp [spec_first.l0])
    | succ k1 =>
      have H := HA.out
      clear HA
      simp only [spec_first.l0] at H
      by_cases c2 : x7_1 < (l0.length : Int)
      · rw [if_pos c2] at H
        have c2b0 : decide (x7_1 < (l0.length : Int)) = true := decide_eq_true c2
        clear c2
        by_cases c3 : 0 ≤ x7_1
        · rw [if_pos c3] at H
          have c3b0 : decide (0 ≤ x7_1) = true := decide_eq_true c3
          clear c3
          by_cases c4 : x7_1 < (l0.length : Int)
          · rw [if_pos c4] at H
            have c4b0 : decide (x7_1 < (l0.length : Int)) = true := decide_eq_true c4
            clear c4
            by_cases c5 : (rd l0 x7_1) = 0
            · rw [if_pos c5] at H
              have c5b0 : ((rd l0 x7_1) == 0) = true := beq_iff_eq.mpr c5
              have c5b1 : ((rd l0 x7_1) != 0) = false := bne_eq_false_iff_eq.mpr c5
              clear c5
              have H' := Aside0.mk H
              clear H
              have p113 : 0 ≤ (x7_1 : Int) := of_decide_eq_true (by first | (with_reducible assumption) | assumption)
              have q113 : x7_1 < (l0.length : Int) := of_decide_eq_true (by first | (with_reducible assumption) | assumption)
              obtain ⟨ad113, e113, hx113_0⟩ := Kd.at_int HR0.out x7_1 p113 q113
              cases e113
              replace p113 := eq_true p113
              replace q113 := eq_true q113
              go_wp2
              go_roundg k1
              case measure => have := HK1.out; omega
              case rel => exact ⟨(wrap64 (x7_1 + 1)), (by first | rfl | (simp; done) | (simp [*]; done)), H', ⟨by have := HK1.out; omega⟩, by repeat (first | exact Drawn0.refl _ | apply Drawn0.step)⟩
            · rw [if_neg c5] at H
              have c5b0 : ((rd l0 x7_1) == 0) = false := beq_eq_false_iff_ne.mpr c5
              have c5b1 : ((rd l0 x7_1) != 0) = true := bne_iff_ne.mpr c5
              obtain rfl := Option.some.inj H
              have p113 : 0 ≤ (x7_1 : Int) := of_decide_eq_true (by first | (with_reducible assumption) | assumption)
              have q113 : x7_1 < (l0.length : Int) := of_decide_eq_true (by first | (with_reducible assumption) | assumption)
              obtain ⟨ad113, e113, hx113_0⟩ := Kd.at_int HR0.out x7_1 p113 q113
              cases e113
              replace p113 := eq_true p113
              replace q113 := eq_true q113
              go_wp2
              go_ret
              exact ⟨by first | rfl | (simp; done) | (simp [*]; done), by repeat (first | exact Drawn0.refl _ | apply Drawn0.step)⟩
          · rw [if_neg c4] at H
            exact absurd H (by simp)
        · rw [if_neg c3] at H
          exact absurd H (by simp)
      · rw [if_neg c2] at H
        have c2b0 : decide (x7_1 < (l0.length : Int)) = false := decide_eq_false c2
        clear c2
        obtain rfl := Option.some.inj H
        go_wp2
        go_ret
        exact ⟨by first | rfl | (simp; done) | (simp [*]; done), by repeat (first | exact Drawn0.refl _ | apply Drawn0.step)⟩
def spec_when.f (a0 : Bool) (a1 : Int) : Option (Int) := if a0 = true then (some a1) else (some 0)
set_option maxHeartbeats 8000000 in
set_option maxRecDepth 100000 in
theorem spec_when.calls (a0 : Bool) (a1 : Int) (r : Int) (w : World) (h : spec_when.f a0 a1 = some r) :
    Calls Tryz.prog 121 #[.bool a0, .int .i64 a1] w fun e w' => e = .returned (.int .i64 r) ∧ Drawn0 w w' := by
  have H : (if a0 = true then (some a1) else (some 0)) = some r := h
  clear h
  by_cases c3 : a0 = true
  · subst c3
    have H1 : (some a1) = some r := by rw [if_pos rfl] at H; exact H
    clear H
    have H := H1
    clear H1
    obtain rfl := Option.some.inj H
    go_enter Tryz.func121, Tryz.ntmps121
    go_wp2
    go_ret
    exact ⟨by first | rfl | (simp; done) | (simp [*]; done), by repeat (first | exact Drawn0.refl _ | apply Drawn0.step)⟩
  · replace c3 := Bool.eq_false_iff.mpr c3
    subst c3
    have H1 : (some 0) = some r := by rw [if_neg (show ¬ (false = true) by decide)] at H; exact H
    clear H
    have H := H1
    clear H1
    obtain rfl := Option.some.inj H
    go_enter Tryz.func121, Tryz.ntmps121
    go_wp2
    go_ret
    exact ⟨by first | rfl | (simp; done) | (simp [*]; done), by repeat (first | exact Drawn0.refl _ | apply Drawn0.step)⟩
def spec_from.f (a0 : Int) (a1 : Int) : Option (Bool) := if a0 ≥ 1 then (some (decide (a0 ≤ a1))) else (some false)
set_option maxHeartbeats 8000000 in
set_option maxRecDepth 100000 in
theorem spec_from.calls (a0 : Int) (a1 : Int) (r : Bool) (w : World) (h : spec_from.f a0 a1 = some r) :
    Calls Tryz.prog 122 #[.int .i64 a0, .int .i64 a1] w fun e w' => e = .returned (.bool r) ∧ Drawn0 w w' := by
  have H : (if a0 ≥ 1 then (some (decide (a0 ≤ a1))) else (some false)) = some r := h
  clear h
  by_cases c3 : a0 ≥ 1
  · rw [if_pos c3] at H
    have c3b0 : decide (1 ≤ a0) = true := decide_eq_true c3
    clear c3
    obtain rfl := Option.some.inj H
    go_enter Tryz.func122, Tryz.ntmps122
    go_wp2
    go_ret
    exact ⟨by first | rfl | (simp; done) | (simp [*]; done), by repeat (first | exact Drawn0.refl _ | apply Drawn0.step)⟩
  · rw [if_neg c3] at H
    have c3b0 : decide (1 ≤ a0) = false := decide_eq_false c3
    clear c3
    obtain rfl := Option.some.inj H
    go_enter Tryz.func122, Tryz.ntmps122
    go_wp2
    go_ret
    exact ⟨by first | rfl | (simp; done) | (simp [*]; done), by repeat (first | exact Drawn0.refl _ | apply Drawn0.step)⟩
def spec_many.f (a0 : Int) : Option (Bool) := some (decide (a0 > 16))
set_option maxHeartbeats 8000000 in
set_option maxRecDepth 100000 in
theorem spec_many.calls (a0 : Int) (r : Bool) (w : World) (h : spec_many.f a0 = some r) :
    Calls Tryz.prog 123 #[.int .i64 a0] w fun e w' => e = .returned (.bool r) ∧ Drawn0 w w' := by
  have H : (some (decide (a0 > 16))) = some r := h
  clear h
  obtain rfl := Option.some.inj H
  go_enter Tryz.func123, Tryz.ntmps123
  go_wp2
  go_ret
  exact ⟨by first | rfl | (simp; done) | (simp [*]; done), by repeat (first | exact Drawn0.refl _ | apply Drawn0.step)⟩
mutual
def dns_Variable.j0 : Nat → ByteArray → Bool → Option (Bool)
  | 0, _, _ => none
  | k + 1, x0, x15 => if x15 = true then (some false) else (dns_Variable.l0 k x0 (x0.size : Int) 0)
def dns_Variable.l0 : Nat → ByteArray → Int → Int → Option (Bool)
  | 0, _, _, _ => none
  | k + 1, x0, x17, x18 => if x18 < x17 then (if 0 ≤ x18 then (if x18 < (x0.size : Int) then ((dns_small.f (bt x0 x18)).bind fun t115 => (if t115 = true then (dns_Variable.l0 k x0 x17 (wrap64 (x18 + 1))) else ((dns_great.f (bt x0 x18)).bind fun t116 => (if t116 = true then (dns_Variable.l0 k x0 x17 (wrap64 (x18 + 1))) else ((dns_digit.f (bt x0 x18)).bind fun t117 => (if t117 = true then (dns_Variable.l0 k x0 x17 (wrap64 (x18 + 1))) else (if (bt x0 x18) = 95 then (dns_Variable.l0 k x0 x17 (wrap64 (x18 + 1))) else (some false)))))))) else (none)) else (none)) else (some true)
end
def dns_Variable.f (k : Nat) (a0 : ByteArray) : Option (Bool) := if a0.toList = ([] : List UInt8) then (dns_Variable.j0 k a0 true) else (if (a0.size : Int) > 63 then (dns_Variable.j0 k a0 true) else (if 0 < (a0.size : Int) then ((dns_digit.f (bt a0 0)).bind fun t114 => (dns_Variable.j0 k a0 t114)) else (none)))
set_option maxHeartbeats 8000000 in
set_option maxRecDepth 100000 in
theorem dns_Variable.calls (k : Nat) (a0 : ByteArray) (r : Bool) (w : World) (h : dns_Variable.f k a0 = some r) :
    Calls Tryz.prog 110 #[.string a0] w fun e w' => e = .returned (.bool r) ∧ Drawn0 w w' := by
  have H : (if a0.toList = ([] : List UInt8) then (dns_Variable.j0 k a0 true) else (if (a0.size : Int) > 63 then (dns_Variable.j0 k a0 true) else (if 0 < (a0.size : Int) then ((dns_digit.f (bt a0 0)).bind fun t114 => (dns_Variable.j0 k a0 t114)) else (none)))) = some r := h
  clear h
  have HC2 := Aside0.mk H
  clear H
  go_enter Tryz.func110, Tryz.ntmps110
  go_upto_region 1 with (fail)
  go_cut [15] (fun v15 wc => ∃ (kq : Nat) (x15_1 : Bool), v15 = .bool x15_1 ∧ Aside0 (dns_Variable.j0 kq a0 x15_1 = some r) ∧ Aside0 (kq ≤ k) ∧ Drawn0 w wc)
  case first =>
    have H := HC2.out
    clear HC2
    by_cases c3 : a0.toList = ([] : List UInt8)
    · rw [if_pos c3] at H
      have c3b0 : (a0.toList == ([] : List UInt8)) = true := beq_iff_eq.mpr c3
      have c3b1 : (a0.toList != ([] : List UInt8)) = false := bne_eq_false_iff_eq.mpr c3
      clear c3
      (first | rw [c3b0] | (simp only [i64_w, i32_w]; rw [c3b0]) | skip)
      have H' := Aside0.mk H
      clear H
      go_wp2
      go_meet
      case rel => exact ⟨_, (true), (by first | rfl | (simp; done) | (simp [*]; done)), H', ⟨by first | omega | exact Nat.le_refl _⟩, by repeat (first | exact Drawn0.refl _ | apply Drawn0.step)⟩
    · rw [if_neg c3] at H
      have c3b0 : (a0.toList == ([] : List UInt8)) = false := beq_eq_false_iff_ne.mpr c3
      have c3b1 : (a0.toList != ([] : List UInt8)) = true := bne_iff_ne.mpr c3
      (first | rw [c3b0] | (simp only [i64_w, i32_w]; rw [c3b0]) | skip)
      by_cases c4 : (a0.size : Int) > 63
      · rw [if_pos c4] at H
        have c4b0 : decide (63 < (a0.size : Int)) = true := decide_eq_true c4
        have c4b1 : decide (63 < a0.size) = true := decide_eq_true (by omega)
        clear c4
        have H' := Aside0.mk H
        clear H
        go_wp2
        go_meet
        case rel => exact ⟨_, (true), (by first | rfl | (simp; done) | (simp [*]; done)), H', ⟨by first | omega | exact Nat.le_refl _⟩, by repeat (first | exact Drawn0.refl _ | apply Drawn0.step)⟩
      · rw [if_neg c4] at H
        have c4b0 : decide (63 < (a0.size : Int)) = false := decide_eq_false c4
        have c4b1 : decide (63 < a0.size) = false := decide_eq_false (by omega)
        clear c4
        by_cases c5 : 0 < (a0.size : Int)
        · rw [if_pos c5] at H
          have c5b0 : decide (0 < (a0.size : Int)) = true := decide_eq_true c5
          have c5b1 : decide (0 < a0.size) = true := decide_eq_true (by omega)
          clear c5
          replace H := Option.bind_eq_some_iff.mp H
          obtain ⟨t114, A70, H⟩ := H
          replace H : (dns_Variable.j0 k a0 t114) = some r := H
          have A7 := Aside0.mk A70
          clear A70
          have H' := Aside0.mk H
          clear H
          have p6 : 0 ≤ (0 : Int) := (by omega)
          have q6 : 0 < a0.size := (by have : (0 : Int) < (a0.size : Int) := of_decide_eq_true (by first | (with_reducible assumption) | assumption); omega)
          have hx6 : ∀ h : 0 < a0.size, ((a0[0]'h).toNat : Int) = bt a0 0 := bt_at a0 0
          clear p6
          have qi6 : (0 < (a0.size : Int)) = True := eq_true (of_decide_eq_true (by first | (with_reducible assumption) | assumption))
          replace q6 := eq_true q6
          go_wp2_with (first | (go_at_call 118; (with_reducible refine (dns_digit.calls (bt a0 0) t114 _ A7.out).mono ?_); rintro e w' ⟨rfl, ⟨nd, rfl⟩⟩))
          go_meet
          case rel => exact ⟨_, (t114), (by first | rfl | (simp; done) | (simp [*]; done)), H', ⟨by first | omega | exact Nat.le_refl _⟩, by repeat (first | exact Drawn0.refl _ | apply Drawn0.step)⟩
        · rw [if_neg c5] at H
          exact absurd H (by simp)
  case rest =>
    clear HC2
    try clear c1
    try clear p2
    try clear c3
    try clear c3b0
    try clear c3b1
    try clear c4
    try clear c4b0
    try clear c4b1
    try clear c5
    try clear c5b0
    try clear c5b1
    try clear p6
    try clear q6
    try clear hx6
    try clear qi6
    try clear p6
    try clear q6
    obtain ⟨kq, x15_1, rfl, HA, HJ1, ⟨mc1, rfl⟩⟩ := hcut
    cases kq with
    | zero => exact absurd HA.out (by simp [dns_Variable.j0])
    | succ kj1 =>
      have H := HA.out
      clear HA
      simp only [dns_Variable.j0] at H
      by_cases c8 : x15_1 = true
      · subst c8
        have H1 : (some false) = some r := by rw [if_pos rfl] at H; exact H
        clear H
        have H := H1
        clear H1
        obtain rfl := Option.some.inj H
        go_wp2
        go_ret
        exact ⟨by first | rfl | (simp; done) | (simp [*]; done), by repeat (first | exact Drawn0.refl _ | apply Drawn0.step)⟩
      · replace c8 := Bool.eq_false_iff.mpr c8
        subst c8
        have H1 : (dns_Variable.l0 kj1 a0 (a0.size : Int) 0) = some r := by rw [if_neg (show ¬ (false = true) by decide)] at H; exact H
        clear H
        have H := H1
        clear H1
        have H' := Aside0.mk H
        clear H
        go_wp2
        go_loopg [18] kj1 (fun kq v18 w' => ∃ (x18_2 : Int), v18 = .int .i64 x18_2 ∧ Aside0 (dns_Variable.l0 kq a0 (a0.size : Int) x18_2 = some r) ∧ Aside0 (kq ≤ kj1) ∧ Drawn0 w w')
        case atStart => exact ⟨(0), (by first | rfl | (simp; done) | (simp [*]; done)), H', ⟨Nat.le_refl _⟩, by repeat (first | exact Drawn0.refl _ | apply Drawn0.step)⟩
        case round =>
          clear H'
          try clear c1
          try clear p2
          try clear c3
          try clear c3b0
          try clear c3b1
          try clear c4
          try clear c4b0
          try clear c4b1
          try clear c5
          try clear c5b0
          try clear c5b1
          try clear p6
          try clear q6
          try clear hx6
          try clear qi6
          try clear c8
          try clear p2
          try clear p6
          try clear q6
          obtain ⟨x18_2, rfl, HA, HK2, ⟨m2, rfl⟩⟩ := hrel
          cases gk with
          | zero => exact absurd HA.out (by simp [dns_Variable.l0])
          | succ k2 =>
            have H := HA.out
            clear HA
            simp only [dns_Variable.l0] at H
            by_cases c9 : x18_2 < (a0.size : Int)
            · rw [if_pos c9] at H
              have c9b0 : decide (x18_2 < (a0.size : Int)) = true := decide_eq_true c9
              clear c9
              by_cases c10 : 0 ≤ x18_2
              · rw [if_pos c10] at H
                have c10b0 : decide (0 ≤ x18_2) = true := decide_eq_true c10
                clear c10
                by_cases c11 : x18_2 < (a0.size : Int)
                · rw [if_pos c11] at H
                  have c11b0 : decide (x18_2 < (a0.size : Int)) = true := decide_eq_true c11
                  clear c11
                  replace H := Option.bind_eq_some_iff.mp H
                  obtain ⟨t115, A130, H⟩ := H
                  replace H : (if t115 = true then (dns_Variable.l0 k2 a0 (a0.size : Int) (wrap64 (x18_2 + 1))) else ((dns_great.f (bt a0 x18_2)).bind fun t116 => (if t116 = true then (dns_Variable.l0 k2 a0 (a0.size : Int) (wrap64 (x18_2 + 1))) else ((dns_digit.f (bt a0 x18_2)).bind fun t117 => (if t117 = true then (dns_Variable.l0 k2 a0 (a0.size : Int) (wrap64 (x18_2 + 1))) else (if (bt a0 x18_2) = 95 then (dns_Variable.l0 k2 a0 (a0.size : Int) (wrap64 (x18_2 + 1))) else (some false))))))) = some r := H
                  have A13 := Aside0.mk A130
                  clear A130
                  by_cases c14 : t115 = true
                  · subst c14
                    have H1 : (dns_Variable.l0 k2 a0 (a0.size : Int) (wrap64 (x18_2 + 1))) = some r := by rw [if_pos rfl] at H; exact H
                    clear H
                    have H := H1
                    clear H1
                    have H' := Aside0.mk H
                    clear H
                    have p12 : 0 ≤ (x18_2 : Int) := of_decide_eq_true (by first | (with_reducible assumption) | assumption)
                    have q12 : x18_2 < (a0.size : Int) := of_decide_eq_true (by first | (with_reducible assumption) | assumption)
                    have hx12 := bt_at a0 x18_2
                    replace p12 := eq_true p12
                    replace q12 := eq_true q12
                    go_wp2_with (first | ((with_reducible refine gate_callee (f := 117) rfl ?_); refine goesL_ (some 24) rfl rfl Tryz.func117 (by kernel_rfl) rfl #[.int .u8 (bt a0 x18_2)] rfl (by (try simp only [List.map_toArray, List.map_cons, List.map_nil]); first | done | rfl | (simp only [List.length_drop, List.length_take]; rfl) | (simp (disch := ((try simp only [decide_eq_true_eq, decide_eq_false_iff_not] at *); omega)) only [IntWalk.u64_in, IntWalk.u32_in, IntWalk.u16_in, IntWalk.u8_in, IntWalk.i64_in] <;> rfl)) ?_; (with_reducible refine (dns_small.calls (bt a0 x18_2) true _ A13.out).mono ?_); rintro e w' ⟨rfl, ⟨nd, rfl⟩⟩; refine ⟨_, rfl, ?_⟩))
                    go_roundg k2
                    case measure => have := HJ1.out; have := HK2.out; omega
                    case rel => exact ⟨(wrap64 (x18_2 + 1)), (by first | rfl | (simp; done) | (simp [*]; done)), H', ⟨by have := HJ1.out; have := HK2.out; omega⟩, by repeat (first | exact Drawn0.refl _ | apply Drawn0.step)⟩
                  · replace c14 := Bool.eq_false_iff.mpr c14
                    subst c14
                    have H1 : ((dns_great.f (bt a0 x18_2)).bind fun t116 => (if t116 = true then (dns_Variable.l0 k2 a0 (a0.size : Int) (wrap64 (x18_2 + 1))) else ((dns_digit.f (bt a0 x18_2)).bind fun t117 => (if t117 = true then (dns_Variable.l0 k2 a0 (a0.size : Int) (wrap64 (x18_2 + 1))) else (if (bt a0 x18_2) = 95 then (dns_Variable.l0 k2 a0 (a0.size : Int) (wrap64 (x18_2 + 1))) else (some false)))))) = some r := by rw [if_neg (show ¬ (false = true) by decide)] at H; exact H
                    clear H
                    have H := H1
                    clear H1
                    replace H := Option.bind_eq_some_iff.mp H
                    obtain ⟨t116, A160, H⟩ := H
                    replace H : (if t116 = true then (dns_Variable.l0 k2 a0 (a0.size : Int) (wrap64 (x18_2 + 1))) else ((dns_digit.f (bt a0 x18_2)).bind fun t117 => (if t117 = true then (dns_Variable.l0 k2 a0 (a0.size : Int) (wrap64 (x18_2 + 1))) else (if (bt a0 x18_2) = 95 then (dns_Variable.l0 k2 a0 (a0.size : Int) (wrap64 (x18_2 + 1))) else (some false))))) = some r := H
                    have A16 := Aside0.mk A160
                    clear A160
                    by_cases c17 : t116 = true
                    · subst c17
                      have H1 : (dns_Variable.l0 k2 a0 (a0.size : Int) (wrap64 (x18_2 + 1))) = some r := by rw [if_pos rfl] at H; exact H
                      clear H
                      have H := H1
                      clear H1
                      have H' := Aside0.mk H
                      clear H
                      have p12 : 0 ≤ (x18_2 : Int) := of_decide_eq_true (by first | (with_reducible assumption) | assumption)
                      have q12 : x18_2 < (a0.size : Int) := of_decide_eq_true (by first | (with_reducible assumption) | assumption)
                      have hx12 := bt_at a0 x18_2
                      replace p12 := eq_true p12
                      replace q12 := eq_true q12
                      go_wp2_with (first | ((with_reducible refine gate_callee (f := 117) rfl ?_); refine goesL_ (some 24) rfl rfl Tryz.func117 (by kernel_rfl) rfl #[.int .u8 (bt a0 x18_2)] rfl (by (try simp only [List.map_toArray, List.map_cons, List.map_nil]); first | done | rfl | (simp only [List.length_drop, List.length_take]; rfl) | (simp (disch := ((try simp only [decide_eq_true_eq, decide_eq_false_iff_not] at *); omega)) only [IntWalk.u64_in, IntWalk.u32_in, IntWalk.u16_in, IntWalk.u8_in, IntWalk.i64_in] <;> rfl)) ?_; (with_reducible refine (dns_small.calls (bt a0 x18_2) false _ A13.out).mono ?_); rintro e w' ⟨rfl, ⟨nd, rfl⟩⟩; refine ⟨_, rfl, ?_⟩; have p15 : 0 ≤ (x18_2 : Int) := of_decide_eq_true (by first | (with_reducible assumption) | assumption); have q15 : x18_2 < (a0.size : Int) := of_decide_eq_true (by first | (with_reducible assumption) | assumption); have hx15 := bt_at a0 x18_2; replace p15 := eq_true p15; replace q15 := eq_true q15) | (go_at_call 119; (with_reducible refine (dns_great.calls (bt a0 x18_2) true _ A16.out).mono ?_); rintro e w' ⟨rfl, ⟨nd, rfl⟩⟩))
                      go_roundg k2
                      case measure => have := HJ1.out; have := HK2.out; omega
                      case rel => exact ⟨(wrap64 (x18_2 + 1)), (by first | rfl | (simp; done) | (simp [*]; done)), H', ⟨by have := HJ1.out; have := HK2.out; omega⟩, by repeat (first | exact Drawn0.refl _ | apply Drawn0.step)⟩
                    · replace c17 := Bool.eq_false_iff.mpr c17
                      subst c17
                      have H1 : ((dns_digit.f (bt a0 x18_2)).bind fun t117 => (if t117 = true then (dns_Variable.l0 k2 a0 (a0.size : Int) (wrap64 (x18_2 + 1))) else (if (bt a0 x18_2) = 95 then (dns_Variable.l0 k2 a0 (a0.size : Int) (wrap64 (x18_2 + 1))) else (some false)))) = some r := by rw [if_neg (show ¬ (false = true) by decide)] at H; exact H
                      clear H
                      have H := H1
                      clear H1
                      replace H := Option.bind_eq_some_iff.mp H
                      obtain ⟨t117, A190, H⟩ := H
                      replace H : (if t117 = true then (dns_Variable.l0 k2 a0 (a0.size : Int) (wrap64 (x18_2 + 1))) else (if (bt a0 x18_2) = 95 then (dns_Variable.l0 k2 a0 (a0.size : Int) (wrap64 (x18_2 + 1))) else (some false))) = some r := H
                      have A19 := Aside0.mk A190
                      clear A190
                      by_cases c20 : t117 = true
                      · subst c20
                        have H1 : (dns_Variable.l0 k2 a0 (a0.size : Int) (wrap64 (x18_2 + 1))) = some r := by rw [if_pos rfl] at H; exact H
                        clear H
                        have H := H1
                        clear H1
                        have H' := Aside0.mk H
                        clear H
                        have p12 : 0 ≤ (x18_2 : Int) := of_decide_eq_true (by first | (with_reducible assumption) | assumption)
                        have q12 : x18_2 < (a0.size : Int) := of_decide_eq_true (by first | (with_reducible assumption) | assumption)
                        have hx12 := bt_at a0 x18_2
                        replace p12 := eq_true p12
                        replace q12 := eq_true q12
                        go_wp2_with (first | ((with_reducible refine gate_callee (f := 117) rfl ?_); refine goesL_ (some 24) rfl rfl Tryz.func117 (by kernel_rfl) rfl #[.int .u8 (bt a0 x18_2)] rfl (by (try simp only [List.map_toArray, List.map_cons, List.map_nil]); first | done | rfl | (simp only [List.length_drop, List.length_take]; rfl) | (simp (disch := ((try simp only [decide_eq_true_eq, decide_eq_false_iff_not] at *); omega)) only [IntWalk.u64_in, IntWalk.u32_in, IntWalk.u16_in, IntWalk.u8_in, IntWalk.i64_in] <;> rfl)) ?_; (with_reducible refine (dns_small.calls (bt a0 x18_2) false _ A13.out).mono ?_); rintro e w' ⟨rfl, ⟨nd, rfl⟩⟩; refine ⟨_, rfl, ?_⟩; have p15 : 0 ≤ (x18_2 : Int) := of_decide_eq_true (by first | (with_reducible assumption) | assumption); have q15 : x18_2 < (a0.size : Int) := of_decide_eq_true (by first | (with_reducible assumption) | assumption); have hx15 := bt_at a0 x18_2; replace p15 := eq_true p15; replace q15 := eq_true q15) | (go_at_call 119; (with_reducible refine (dns_great.calls (bt a0 x18_2) false _ A16.out).mono ?_); rintro e w' ⟨rfl, ⟨nd, rfl⟩⟩; have p18 : 0 ≤ (x18_2 : Int) := of_decide_eq_true (by first | (with_reducible assumption) | assumption); have q18 : x18_2 < (a0.size : Int) := of_decide_eq_true (by first | (with_reducible assumption) | assumption); have hx18 := bt_at a0 x18_2; replace p18 := eq_true p18; replace q18 := eq_true q18) | (go_at_call 118; (with_reducible refine (dns_digit.calls (bt a0 x18_2) true _ A19.out).mono ?_); rintro e w' ⟨rfl, ⟨nd, rfl⟩⟩))
                        go_roundg k2
                        case measure => have := HJ1.out; have := HK2.out; omega
                        case rel => exact ⟨(wrap64 (x18_2 + 1)), (by first | rfl | (simp; done) | (simp [*]; done)), H', ⟨by have := HJ1.out; have := HK2.out; omega⟩, by repeat (first | exact Drawn0.refl _ | apply Drawn0.step)⟩
                      · replace c20 := Bool.eq_false_iff.mpr c20
                        subst c20
                        have H1 : (if (bt a0 x18_2) = 95 then (dns_Variable.l0 k2 a0 (a0.size : Int) (wrap64 (x18_2 + 1))) else (some false)) = some r := by rw [if_neg (show ¬ (false = true) by decide)] at H; exact H
                        clear H
                        have H := H1
                        clear H1
                        by_cases c22 : (bt a0 x18_2) = 95
                        · rw [if_pos c22] at H
                          have c22b0 : ((bt a0 x18_2) == 95) = true := beq_iff_eq.mpr c22
                          have c22b1 : ((bt a0 x18_2) != 95) = false := bne_eq_false_iff_eq.mpr c22
                          clear c22
                          have H' := Aside0.mk H
                          clear H
                          have p12 : 0 ≤ (x18_2 : Int) := of_decide_eq_true (by first | (with_reducible assumption) | assumption)
                          have q12 : x18_2 < (a0.size : Int) := of_decide_eq_true (by first | (with_reducible assumption) | assumption)
                          have hx12 := bt_at a0 x18_2
                          replace p12 := eq_true p12
                          replace q12 := eq_true q12
                          go_wp2_with (first | ((with_reducible refine gate_callee (f := 117) rfl ?_); refine goesL_ (some 24) rfl rfl Tryz.func117 (by kernel_rfl) rfl #[.int .u8 (bt a0 x18_2)] rfl (by (try simp only [List.map_toArray, List.map_cons, List.map_nil]); first | done | rfl | (simp only [List.length_drop, List.length_take]; rfl) | (simp (disch := ((try simp only [decide_eq_true_eq, decide_eq_false_iff_not] at *); omega)) only [IntWalk.u64_in, IntWalk.u32_in, IntWalk.u16_in, IntWalk.u8_in, IntWalk.i64_in] <;> rfl)) ?_; (with_reducible refine (dns_small.calls (bt a0 x18_2) false _ A13.out).mono ?_); rintro e w' ⟨rfl, ⟨nd, rfl⟩⟩; refine ⟨_, rfl, ?_⟩; have p15 : 0 ≤ (x18_2 : Int) := of_decide_eq_true (by first | (with_reducible assumption) | assumption); have q15 : x18_2 < (a0.size : Int) := of_decide_eq_true (by first | (with_reducible assumption) | assumption); have hx15 := bt_at a0 x18_2; replace p15 := eq_true p15; replace q15 := eq_true q15) | (go_at_call 119; (with_reducible refine (dns_great.calls (bt a0 x18_2) false _ A16.out).mono ?_); rintro e w' ⟨rfl, ⟨nd, rfl⟩⟩; have p18 : 0 ≤ (x18_2 : Int) := of_decide_eq_true (by first | (with_reducible assumption) | assumption); have q18 : x18_2 < (a0.size : Int) := of_decide_eq_true (by first | (with_reducible assumption) | assumption); have hx18 := bt_at a0 x18_2; replace p18 := eq_true p18; replace q18 := eq_true q18) | (go_at_call 118; (with_reducible refine (dns_digit.calls (bt a0 x18_2) false _ A19.out).mono ?_); rintro e w' ⟨rfl, ⟨nd, rfl⟩⟩; have p21 : 0 ≤ (x18_2 : Int) := of_decide_eq_true (by first | (with_reducible assumption) | assumption); have q21 : x18_2 < (a0.size : Int) := of_decide_eq_true (by first | (with_reducible assumption) | assumption); have hx21 := bt_at a0 x18_2; replace p21 := eq_true p21; replace q21 := eq_true q21))
                          go_roundg k2
                          case measure => have := HJ1.out; have := HK2.out; omega
                          case rel => exact ⟨(wrap64 (x18_2 + 1)), (by first | rfl | (simp; done) | (simp [*]; done)), H', ⟨by have := HJ1.out; have := HK2.out; omega⟩, by repeat (first | exact Drawn0.refl _ | apply Drawn0.step)⟩
                        · rw [if_neg c22] at H
                          have c22b0 : ((bt a0 x18_2) == 95) = false := beq_eq_false_iff_ne.mpr c22
                          have c22b1 : ((bt a0 x18_2) != 95) = true := bne_iff_ne.mpr c22
                          obtain rfl := Option.some.inj H
                          have p12 : 0 ≤ (x18_2 : Int) := of_decide_eq_true (by first | (with_reducible assumption) | assumption)
                          have q12 : x18_2 < (a0.size : Int) := of_decide_eq_true (by first | (with_reducible assumption) | assumption)
                          have hx12 := bt_at a0 x18_2
                          replace p12 := eq_true p12
                          replace q12 := eq_true q12
                          go_wp2_with (first | ((with_reducible refine gate_callee (f := 117) rfl ?_); refine goesL_ (some 24) rfl rfl Tryz.func117 (by kernel_rfl) rfl #[.int .u8 (bt a0 x18_2)] rfl (by (try simp only [List.map_toArray, List.map_cons, List.map_nil]); first | done | rfl | (simp only [List.length_drop, List.length_take]; rfl) | (simp (disch := ((try simp only [decide_eq_true_eq, decide_eq_false_iff_not] at *); omega)) only [IntWalk.u64_in, IntWalk.u32_in, IntWalk.u16_in, IntWalk.u8_in, IntWalk.i64_in] <;> rfl)) ?_; (with_reducible refine (dns_small.calls (bt a0 x18_2) false _ A13.out).mono ?_); rintro e w' ⟨rfl, ⟨nd, rfl⟩⟩; refine ⟨_, rfl, ?_⟩; have p15 : 0 ≤ (x18_2 : Int) := of_decide_eq_true (by first | (with_reducible assumption) | assumption); have q15 : x18_2 < (a0.size : Int) := of_decide_eq_true (by first | (with_reducible assumption) | assumption); have hx15 := bt_at a0 x18_2; replace p15 := eq_true p15; replace q15 := eq_true q15) | (go_at_call 119; (with_reducible refine (dns_great.calls (bt a0 x18_2) false _ A16.out).mono ?_); rintro e w' ⟨rfl, ⟨nd, rfl⟩⟩; have p18 : 0 ≤ (x18_2 : Int) := of_decide_eq_true (by first | (with_reducible assumption) | assumption); have q18 : x18_2 < (a0.size : Int) := of_decide_eq_true (by first | (with_reducible assumption) | assumption); have hx18 := bt_at a0 x18_2; replace p18 := eq_true p18; replace q18 := eq_true q18) | (go_at_call 118; (with_reducible refine (dns_digit.calls (bt a0 x18_2) false _ A19.out).mono ?_); rintro e w' ⟨rfl, ⟨nd, rfl⟩⟩; have p21 : 0 ≤ (x18_2 : Int) := of_decide_eq_true (by first | (with_reducible assumption) | assumption); have q21 : x18_2 < (a0.size : Int) := of_decide_eq_true (by first | (with_reducible assumption) | assumption); have hx21 := bt_at a0 x18_2; replace p21 := eq_true p21; replace q21 := eq_true q21))
                          go_ret
                          exact ⟨by first | rfl | (simp; done) | (simp [*]; done), by repeat (first | exact Drawn0.refl _ | apply Drawn0.step)⟩
                · rw [if_neg c11] at H
                  exact absurd H (by simp)
              · rw [if_neg c10] at H
                exact absurd H (by simp)
            · rw [if_neg c9] at H
              have c9b0 : decide (x18_2 < (a0.size : Int)) = false := decide_eq_false c9
              clear c9
              obtain rfl := Option.some.inj H
              go_wp2
              go_ret
              exact ⟨by first | rfl | (simp; done) | (simp [*]; done), by repeat (first | exact Drawn0.refl _ | apply Drawn0.step)⟩
end Go.Proofs.YtlmeelmjodjfpaaGreatDoor.PB
end
section
namespace Go.Proofs.YtlmeelmjodjfpaaGreatDoor.PB
open Go.RowKit Go.Proofs.YtlmeelmjodjfpaaGreatDoorW.PrintWords Go.Proofs.YtlmeelmjodjfpaaGreatDoorW.PrintLast Go.Proofs.YtlmeelmjodjfpaaGreatDoorW.PrintMore
set_option linter.unusedVariables false
def allF (p : Int → Bool) (s : ByteArray) (i : Nat) : Bool := (s.data.toList.drop i).all (fun b => p (b.toNat : Int))
theorem bt_cell (s : ByteArray) (i : Nat) (hi : i < s.size) : s.data.toList[i]? = some (s[i]'hi) ∧ bt s (i : Int) = ((s[i]'hi).toNat : Int) := by
  refine ⟨?_, ?_⟩
  · rw [List.getElem?_eq_getElem (by rw [Array.length_toList]; exact hi)]; rfl
  · unfold bt; rw [Int.toNat_natCast, dif_pos hi]
theorem allF_step (p : Int → Bool) (s : ByteArray) (i : Nat) (hi : i < s.size) : allF p s i = (p (bt s i) && allF p s (i + 1)) := by
  obtain ⟨h1, h2⟩ := bt_cell s i hi
  unfold allF
  rw [List.drop_eq_getElem_cons (by rw [Array.length_toList]; exact hi), List.all_cons, h2]
  rfl
theorem allF_end (p : Int → Bool) (s : ByteArray) : allF p s s.size = true := by
  unfold allF
  rw [List.drop_of_length_le (by rw [Array.length_toList]; exact Nat.le_refl _)]; rfl
theorem all_loop (s : ByteArray) (p : Int → Bool) (L : Nat → Int → Option Bool) (z : Bool) (hs : s.size ≤ 140737488355328)
    (h1 : ∀ (k i : Nat), i < s.size → L (k + 1) (i : Int) = if p (bt s i) then L k (wrap64 ((i : Int) + 1)) else some false)
    (h2 : ∀ k, L (k + 1) (s.size : Int) = some z) : ∀ (d k i : Nat), i + d = s.size → d < k → L k (i : Int) = some (allF p s i && z) := by
  intro d
  induction d with
  | zero =>
    intro k i hi hk
    obtain ⟨k, rfl⟩ : ∃ m, k = m + 1 := ⟨k - 1, by omega⟩
    obtain rfl : i = s.size := by omega
    rw [h2, allF_end, Bool.true_and]
  | succ d ih =>
    intro k i hi hk
    obtain ⟨k, rfl⟩ : ∃ m, k = m + 1 := ⟨k - 1, by omega⟩
    rw [h1 k i (by omega), allF_step p s i (by omega)]
    cases hp : p (bt s i) with
    | true =>
      rw [if_pos rfl, Bool.true_and, show wrap64 ((i : Int) + 1) = ((i + 1 : Nat) : Int) from by unfold wrap64; omega]
      exact ih k (i + 1) (by omega) (by omega)
    | false => rfl
def isSmall (b : Int) : Bool := decide (97 ≤ b) && decide (b ≤ 122)
def isGreat (b : Int) : Bool := decide (65 ≤ b) && decide (b ≤ 90)
def isDigit (b : Int) : Bool := decide (48 ≤ b) && decide (b ≤ 57)
theorem small_tells (b : Int) : dns_small.f b = some (isSmall b) := by
  unfold dns_small.f isSmall; by_cases h : b ≥ 97 <;> simp [h]
theorem great_tells (b : Int) : dns_great.f b = some (isGreat b) := by
  unfold dns_great.f isGreat; by_cases h : b ≥ 65 <;> simp [h]
theorem digit_tells (b : Int) : dns_digit.f b = some (isDigit b) := by
  unfold dns_digit.f isDigit; by_cases h : b ≥ 48 <;> simp [h]
def isMark4 (b : Int) : Bool := b == 46 || b == 95 || b == 45 || b == 47
def isMark6 (b : Int) : Bool := b == 46 || b == 95 || b == 45 || b == 47 || b == 58 || b == 64
theorem mark4_all : ∀ n : Nat, n < 256 → decide (Lib.indexByte [46, 95, 45, 47] n.toUInt8 < 0) = !isMark4 (n : Int) := by decide +kernel
theorem mark6_all : ∀ n : Nat, n < 256 → decide (Lib.indexByte [46, 95, 45, 47, 58, 64] n.toUInt8 < 0) = !isMark6 (n : Int) := by decide +kernel
theorem bt_nat (s : ByteArray) (i : Int) : ∃ n : Nat, n < 256 ∧ bt s i = (n : Int) := by
  obtain ⟨h0, h1⟩ := bt_range s i
  exact ⟨(bt s i).toNat, by omega, by omega⟩
theorem mark4_tells (s : ByteArray) (i : Int) : ∃ t, strings_IndexByte.f (⟨#[46, 95, 45, 47]⟩ : ByteArray) (bt s i) = some t ∧ decide (t < 0) = !isMark4 (bt s i) := by
  obtain ⟨n, hn, e⟩ := bt_nat s i
  rw [e]
  exact ⟨_, rfl, by rw [Int.toNat_natCast]; exact mark4_all n hn⟩
theorem mark6_tells (s : ByteArray) (i : Int) : ∃ t, strings_IndexByte.f (⟨#[46, 95, 45, 47, 58, 64]⟩ : ByteArray) (bt s i) = some t ∧ decide (t < 0) = !isMark6 (bt s i) := by
  obtain ⟨n, hn, e⟩ := bt_nat s i
  rw [e]
  exact ⟨_, rfl, by rw [Int.toNat_natCast]; exact mark6_all n hn⟩
def noText (s : ByteArray) : Bool := decide (s.toList = [])
theorem noText_size (s : ByteArray) : noText s = decide (s.size = 0) := by
  unfold noText
  rw [Go.ByteArray.toList_eq]
  refine decide_eq_decide.2 ⟨fun h => ?_, fun h => ?_⟩
  · have := congrArg List.length h; rw [Array.length_toList] at this; exact this
  · exact List.eq_nil_of_length_eq_zero (by rw [Array.length_toList]; exact h)
def okFile (b : Int) : Bool := isSmall b || isDigit b || isMark4 b
def fileP (s : ByteArray) : Bool := allF okFile s 0 && (!decide (s.size = 0) && decide (s.size ≤ 64))
theorem file_tells (s : ByteArray) (k : Nat) (hs : s.size ≤ 140737488355328) (hk : s.size < k) : ckone_File.f k s = some (fileP s) := by
  unfold ckone_File.f fileP
  refine all_loop s okFile (fun k i => ckone_File.l0 k s (s.size : Int) i) _ hs ?_ ?_ s.size k 0 (by omega) hk
  · intro k i hi
    have hi2 : (i : Int) < (s.size : Int) := by omega
    have hi0 : (0 : Int) ≤ (i : Int) := by omega
    obtain ⟨t, ht, hb⟩ := mark4_tells s i
    show ckone_File.l0 (k + 1) s (s.size : Int) (i : Int) = _
    rw [ckone_File.l0, if_pos hi2, if_pos hi0, if_pos hi2, ht]
    simp only [Option.bind_some]
    unfold okFile isSmall isDigit
    have hb2 : isMark4 (bt s i) = !decide (t < 0) := by rw [hb, Bool.not_not]
    rw [hb2]
    generalize bt s i = b
    by_cases c1 : b < 97 <;> by_cases c2 : b < 48 <;> by_cases c3 : b > 57 <;> by_cases c4 : b > 122 <;> by_cases c5 : t < 0 <;>
      simp [c1, c2, c3, c4, c5, Int.not_lt.1, show (97 ≤ b) ↔ ¬ b < 97 from by omega, show (48 ≤ b) ↔ ¬ b < 48 from by omega, show (b ≤ 57) ↔ ¬ b > 57 from by omega, show (b ≤ 122) ↔ ¬ b > 122 from by omega]
  · intro k
    show ckone_File.l0 (k + 1) s (s.size : Int) (s.size : Int) = _
    rw [ckone_File.l0, if_neg (by omega)]
    have h := noText_size s
    unfold noText at h
    by_cases e : s.toList = []
    · rw [if_pos e, ← h]; simp [e]
    · rw [if_neg e, ← h, show decide ((s.size : Int) ≤ 64) = decide (s.size ≤ 64) from decide_eq_decide.2 (by omega)]; simp [e]
def okLabel (b : Int) : Bool := isSmall b || isDigit b || b == 45
def labelP (s : ByteArray) : Bool := !decide (s.size = 0) && decide (s.size ≤ 63) && !(bt s 0 == 45) && !(bt s ((s.size : Int) - 1) == 45) && allF okLabel s 0
theorem label_loop (s : ByteArray) (k : Nat) (hs : s.size ≤ 140737488355328) (hk : s.size < k) : dns_Label.l0 k s (s.size : Int) 0 = some (allF okLabel s 0) := by
  rw [show allF okLabel s 0 = (allF okLabel s 0 && true) from by rw [Bool.and_true]]
  refine all_loop s okLabel (fun k i => dns_Label.l0 k s (s.size : Int) i) true hs ?_ ?_ s.size k 0 (by omega) hk
  · intro k i hi
    have hi2 : (i : Int) < (s.size : Int) := by omega
    have hi0 : (0 : Int) ≤ (i : Int) := by omega
    show dns_Label.l0 (k + 1) s (s.size : Int) (i : Int) = _
    rw [dns_Label.l0, if_pos hi2, if_pos hi0, if_pos hi2, small_tells, digit_tells]
    simp only [Option.bind_some]
    unfold okLabel
    cases isSmall (bt s i) <;> cases isDigit (bt s i) <;> by_cases c : bt s i = 45 <;> simp [c]
  · intro k
    show dns_Label.l0 (k + 1) s (s.size : Int) (s.size : Int) = _
    rw [dns_Label.l0, if_neg (by omega)]
theorem label_tells (s : ByteArray) (k : Nat) (hs : s.size ≤ 140737488355328) (hk : s.size + 2 < k) : dns_Label.f k s = some (labelP s) := by
  have h := noText_size s
  unfold noText at h
  unfold dns_Label.f labelP
  rw [← h]
  obtain ⟨k, rfl⟩ : ∃ m, k = m + 1 := ⟨k - 1, by omega⟩
  by_cases e : s.toList = []
  · rw [if_pos e, dns_Label.j0, if_pos rfl]; simp [e]
  · have h0 : ¬ s.size = 0 := fun q => e (by simpa [q] using h)
    rw [if_neg e]
    by_cases c : (s.size : Int) > 63
    · rw [if_pos c, dns_Label.j0, if_pos rfl]; simp [show ¬ s.size ≤ 63 from by omega]
    · rw [if_neg c, if_pos (by omega)]
      by_cases c0 : bt s 0 = 45
      · rw [if_pos c0, dns_Label.j0, if_pos rfl]; simp [c0]
      · have hw : wrap64 ((s.size : Int) - 1) = (s.size : Int) - 1 := by unfold wrap64; omega
        rw [if_neg c0, hw, if_pos (by omega), if_pos (by omega), dns_Label.j0]
        by_cases c1 : bt s ((s.size : Int) - 1) = 45
        · rw [if_pos (by simp [c1])]; simp [c1]
        · rw [if_neg (by simp [c1]), label_loop s k hs (by omega)]
          simp [e, c0, c1, show s.size ≤ 63 from by omega]
def okImage (b : Int) : Bool := isSmall b || isGreat b || isDigit b || isMark6 b
def imageP (s : ByteArray) : Bool := !decide (s.size = 0) && decide (s.size ≤ 255) && (isSmall (bt s 0) || isDigit (bt s 0)) && allF okImage s 0
theorem image_loop (s : ByteArray) (k : Nat) (hs : s.size ≤ 140737488355328) (hk : s.size < k) : dns_Image.l0 k s (s.size : Int) 0 = some (allF okImage s 0) := by
  rw [show allF okImage s 0 = (allF okImage s 0 && true) from by rw [Bool.and_true]]
  refine all_loop s okImage (fun k i => dns_Image.l0 k s (s.size : Int) i) true hs ?_ ?_ s.size k 0 (by omega) hk
  · intro k i hi
    have hi2 : (i : Int) < (s.size : Int) := by omega
    have hi0 : (0 : Int) ≤ (i : Int) := by omega
    obtain ⟨t, ht, hb⟩ := mark6_tells s i
    have hb2 : isMark6 (bt s i) = !decide (t < 0) := by rw [hb, Bool.not_not]
    show dns_Image.l0 (k + 1) s (s.size : Int) (i : Int) = _
    rw [dns_Image.l0, if_pos hi2, if_pos hi0, if_pos hi2, small_tells, great_tells, digit_tells, ht]
    simp only [Option.bind_some]
    unfold okImage
    rw [hb2]
    cases isSmall (bt s i) <;> cases isGreat (bt s i) <;> cases isDigit (bt s i) <;> by_cases c : t < 0 <;> simp [c]
  · intro k
    show dns_Image.l0 (k + 1) s (s.size : Int) (s.size : Int) = _
    rw [dns_Image.l0, if_neg (by omega)]
theorem image_tells (s : ByteArray) (k : Nat) (hs : s.size ≤ 140737488355328) (hk : s.size + 2 < k) : dns_Image.f k s = some (imageP s) := by
  have h := noText_size s
  unfold noText at h
  unfold dns_Image.f imageP
  rw [← h]
  obtain ⟨k, rfl⟩ : ∃ m, k = m + 1 := ⟨k - 1, by omega⟩
  by_cases e : s.toList = []
  · rw [if_pos e, dns_Image.j0, if_pos rfl]; simp [e]
  · have h0 : ¬ s.size = 0 := fun q => e (by simpa [q] using h)
    rw [if_neg e]
    by_cases c : (s.size : Int) > 255
    · rw [if_pos c, dns_Image.j0, if_pos rfl]; simp [show ¬ s.size ≤ 255 from by omega]
    · rw [if_neg c, if_pos (by omega), small_tells, digit_tells]
      simp only [Option.bind_some]
      have hl := image_loop s k hs (by omega)
      cases c0 : isSmall (bt s 0) with
      | true => rw [if_pos rfl, dns_Image.j0, if_neg (by decide), hl]; simp [e, show s.size ≤ 255 from by omega]
      | false =>
        rw [if_neg (by decide)]
        cases c1 : isDigit (bt s 0) with
        | true => rw [dns_Image.j0, if_neg (by decide), hl]; simp [e, show s.size ≤ 255 from by omega]
        | false => rw [dns_Image.j0, if_pos (by decide)]; simp
def okVar (b : Int) : Bool := isSmall b || isGreat b || isDigit b || b == 95
def varP (s : ByteArray) : Bool := !decide (s.size = 0) && decide (s.size ≤ 63) && !isDigit (bt s 0) && allF okVar s 0
theorem var_loop (s : ByteArray) (k : Nat) (hs : s.size ≤ 140737488355328) (hk : s.size < k) : dns_Variable.l0 k s (s.size : Int) 0 = some (allF okVar s 0) := by
  rw [show allF okVar s 0 = (allF okVar s 0 && true) from by rw [Bool.and_true]]
  refine all_loop s okVar (fun k i => dns_Variable.l0 k s (s.size : Int) i) true hs ?_ ?_ s.size k 0 (by omega) hk
  · intro k i hi
    have hi2 : (i : Int) < (s.size : Int) := by omega
    have hi0 : (0 : Int) ≤ (i : Int) := by omega
    show dns_Variable.l0 (k + 1) s (s.size : Int) (i : Int) = _
    rw [dns_Variable.l0, if_pos hi2, if_pos hi0, if_pos hi2, small_tells, great_tells, digit_tells]
    simp only [Option.bind_some]
    unfold okVar
    cases isSmall (bt s i) <;> cases isGreat (bt s i) <;> cases isDigit (bt s i) <;> by_cases c : bt s i = 95 <;> simp [c]
  · intro k
    show dns_Variable.l0 (k + 1) s (s.size : Int) (s.size : Int) = _
    rw [dns_Variable.l0, if_neg (by omega)]
theorem var_tells (s : ByteArray) (k : Nat) (hs : s.size ≤ 140737488355328) (hk : s.size + 2 < k) : dns_Variable.f k s = some (varP s) := by
  have h := noText_size s
  unfold noText at h
  unfold dns_Variable.f varP
  rw [← h]
  obtain ⟨k, rfl⟩ : ∃ m, k = m + 1 := ⟨k - 1, by omega⟩
  by_cases e : s.toList = []
  · rw [if_pos e, dns_Variable.j0, if_pos rfl]; simp [e]
  · have h0 : ¬ s.size = 0 := fun q => e (by simpa [q] using h)
    rw [if_neg e]
    by_cases c : (s.size : Int) > 63
    · rw [if_pos c, dns_Variable.j0, if_pos rfl]; simp [show ¬ s.size ≤ 63 from by omega]
    · rw [if_neg c, if_pos (by omega), digit_tells]
      simp only [Option.bind_some]
      have hl := var_loop s k hs (by omega)
      cases c1 : isDigit (bt s 0) with
      | true => rw [dns_Variable.j0, if_pos (by decide)]; simp
      | false => rw [dns_Variable.j0, if_neg (by decide), hl]; simp [e, show s.size ≤ 63 from by omega]
theorem cFile (s : ByteArray) (w : World) (hs : s.size ≤ 140737488355328) : Calls Tryz.prog 90 #[.string s] w fun e w' => e = .returned (.bool (fileP s)) ∧ Below w.heap.size w w' := by
  refine (ckone_File.calls (s.size + 1) s (fileP s) w (file_tells s _ hs (by omega))).mono ?_
  rintro e w' ⟨rfl, hb⟩; exact ⟨rfl, by first | exact hb | exact hb.below⟩
theorem cLabel (s : ByteArray) (w : World) (hs : s.size ≤ 140737488355328) : Calls Tryz.prog 95 #[.string s] w fun e w' => e = .returned (.bool (labelP s)) ∧ Below w.heap.size w w' := by
  refine (dns_Label.calls (s.size + 3) s (labelP s) w (label_tells s _ hs (by omega))).mono ?_
  rintro e w' ⟨rfl, hb⟩; exact ⟨rfl, by first | exact hb | exact hb.below⟩
theorem cImage (s : ByteArray) (w : World) (hs : s.size ≤ 140737488355328) : Calls Tryz.prog 92 #[.string s] w fun e w' => e = .returned (.bool (imageP s)) ∧ Below w.heap.size w w' := by
  refine (dns_Image.calls (s.size + 3) s (imageP s) w (image_tells s _ hs (by omega))).mono ?_
  rintro e w' ⟨rfl, hb⟩; exact ⟨rfl, by first | exact hb | exact hb.below⟩
theorem cVar (s : ByteArray) (w : World) (hs : s.size ≤ 140737488355328) : Calls Tryz.prog 110 #[.string s] w fun e w' => e = .returned (.bool (varP s)) ∧ Below w.heap.size w w' := by
  refine (dns_Variable.calls (s.size + 3) s (varP s) w (var_tells s _ hs (by omega))).mono ?_
  rintro e w' ⟨rfl, hb⟩; exact ⟨rfl, by first | exact hb | exact hb.below⟩
end Go.Proofs.YtlmeelmjodjfpaaGreatDoor.PB
end
