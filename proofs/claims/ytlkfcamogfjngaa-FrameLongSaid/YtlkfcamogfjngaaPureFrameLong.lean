/- A payload of more than 2^22 bytes is too long, one of as many isn't: the pure statement of FrameLong. No condition. -/
import Derived.Test.YtlkfcamogfjngaaFr
namespace Go.Proofs.Ytlkfcamogfjngaa.Pure
open Go.RowKit Go.Proofs.Ytlkfcamogfjngaa.PAll Go.Proofs.YtlkfcamogfjngaaW.PrintWords Go.Proofs.YtlkfcamogfjngaaW.PrintLast
open Go.Proofs.Ytlkfcamogfjngaa

theorem zeros_size (n : Nat) : (strOfNums (List.replicate n 0)).size = n := by rw [strOfNums_size, List.length_replicate]
theorem long_yes (k n : Nat) (hn : 4194304 < n) (hn2 : n ≤ 281474976710656) (hk : 200 ≤ k) : bosunlaw03_FrameLong.j0 (k + 1) true (n : Int) = some true := by
  have hz := zeros_size n
  rw [bosunlaw03_FrameLong.j0, Int.toNat_natCast, if_pos (by omega), if_pos hn2, Fr.close_long k 1 _ (by omega)]
  simp only [Option.bind_some]
  rw [if_pos trivial, Fr.awake3 k (by omega)]
  simp only [Option.bind_some]
  rw [if_pos trivial, if_pos trivial, Go.ByteArray.toList_eq]
  rfl
theorem long_no (k n : Nat) (hn : n ≤ 4194304) (hk : 10 * n + 200 ≤ k) : bosunlaw03_FrameLong.j0 (k + 1) false (n : Int) = some true := by
  have hz := zeros_size n
  have hw : wrap64 ((n : Int) + 13) = ((n + 13 : Nat) : Int) := by unfold wrap64; omega
  rw [bosunlaw03_FrameLong.j0, Int.toNat_natCast, if_pos (by omega), if_pos (by omega), show (1 : Int) = ((1 : Nat) : Int) from rfl, Fr.close_tells k 1 (by omega) _ (by omega) (by omega)]
  simp only [Option.bind_some]
  rw [if_neg (by decide), Fr.awake3 k (by omega)]
  simp only [Option.bind_some]
  rw [if_pos trivial, if_pos trivial, hw, Fr.tx_size, Fr.frameOf_length, Array.length_toList]
  rw [show (strOfNums (List.replicate n 0)).data.size = n from hz]
  simp

theorem FrameLong : bosunlaw03_FrameLong.Pure := by
  intro a
  unfold bosunlaw03_FrameLong.f
  cases a with
  | true => exact ⟨201, by rw [if_pos rfl]; exact long_yes 200 4194305 (by omega) (by omega) (by omega)⟩
  | false => exact ⟨10 * 4194304 + 201, by rw [if_neg (by decide)]; exact long_no (10 * 4194304 + 200) 4194304 (by omega) (by omega)⟩

end Go.Proofs.Ytlkfcamogfjngaa.Pure
