/- The sum of any text, whole or in two parts, is the document's: the pure statement of CrcSums. No condition. -/
import Derived.Test.YtlkfcamogfjngaaCrc
namespace Go.Proofs.Ytlkfcamogfjngaa.Pure
open Go.RowKit Go.Proofs.Ytlkfcamogfjngaa.PAll Go.Proofs.YtlkfcamogfjngaaW.PrintWords Go.Proofs.YtlkfcamogfjngaaW.PrintLast

theorem CrcSums : bosunlaw01_CrcSums.Pure := by
  intro s cut hs hc
  refine ⟨10 * s.size + 100, ?_⟩
  have hA : ∀ k, 91 ≤ k → bosunlaw01_Awake.f k = some true := Crc.awake1
  have hj : ∀ k, 91 ≤ k → bosunlaw01_CrcSums.j0 (k + 1) s cut true = some true := by
    intro k hk
    rw [bosunlaw01_CrcSums.j0, if_pos rfl, hA k hk]
    rfl
  unfold bosunlaw01_CrcSums.f
  by_cases h1 : (s.size : Int) > 2000
  · rw [if_pos h1]
    exact hj (10 * s.size + 99) (by omega)
  rw [if_neg h1]
  by_cases h2 : cut < 0
  · rw [if_pos h2]
    exact hj (10 * s.size + 99) (by omega)
  rw [if_neg h2]
  by_cases h3 : cut > (s.size : Int)
  · rw [decide_eq_true h3]
    exact hj (10 * s.size + 99) (by omega)
  rw [decide_eq_false h3]
  show bosunlaw01_CrcSums.j0 (10 * s.size + 99 + 1) s cut false = some true
  obtain ⟨c, rfl⟩ := Int.eq_ofNat_of_zero_le (show 0 ≤ cut by omega)
  have hcs : c ≤ s.size := by omega
  have hz1 : (s.extract 0 c).size = c := by rw [ByteArray.size_extract]; omega
  have hz2 : (s.extract c s.size).size = s.size - c := by rw [ByteArray.size_extract]; omega
  rw [bosunlaw01_CrcSums.j0, if_neg (by decide), Crc.ref_tells s hs _ (by omega), hA _ (by omega), Crc.sum_tells s hs _ (by omega), Int.toNat_natCast,
    Crc.sum_tells (s.extract 0 c) (by omega) _ (by omega)]
  simp only [Option.bind_some]
  rw [if_pos trivial, if_pos trivial, if_pos (by omega), if_pos (by omega), Crc.more_tells (s.extract c s.size) (by omega) _ _ (by omega), Crc.ext_take, Crc.ext_drop]
  simp only [Option.bind_some]
  unfold Crc.sum
  rw [Crc.more_append, List.take_append_drop]
  simp

end Go.Proofs.Ytlkfcamogfjngaa.Pure
