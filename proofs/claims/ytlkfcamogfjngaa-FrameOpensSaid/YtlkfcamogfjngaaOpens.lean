/- FrameOpens, walked: it returns true for every text of at most 2^47 - 4096 bytes. -/
import Derived.Test.YtlkfcamogfjngaaOpw
namespace Go.Proofs.Ytlkfcamogfjngaa.Opens
open Go.RowKit Go.Proofs.Ytlkfcamogfjngaa.PAll Go.Proofs.YtlkfcamogfjngaaW.PrintWords Go.Proofs.YtlkfcamogfjngaaW.PrintLast Go.Proofs.YtlkfcamogfjngaaW.PrintMore
open Go.Proofs.Ytlkfcamogfjngaa.Fr Go.Proofs.Ytlkfcamogfjngaa.Op
set_option linter.unusedVariables false
set_option maxHeartbeats 1000000
set_option maxRecDepth 100000

theorem walk (s : ByteArray) (w : World) (hs : s.size ≤ 140737488351232) :
    Calls Try.prog 6 #[.string s] w fun e w' => e = .returned (.bool true) ∧ Below w.heap.size w w' := by
  obtain ⟨k, hk⟩ : ∃ k, k = 10 * s.size + 400 := ⟨_, rfl⟩
  have A := Aside0.mk (awake3 k (by omega))
  by_cases h : 3000 < (s.size : Int)
  · go_enter Try.func6, Try.ntmps6
    go_wp2_with fail
    refine (bosunlaw03_Awake.calls k true _ A.out).mono ?_
    rintro e w1 ⟨rfl, hb⟩
    go_wp2_with fail
    go_ret
    exact ⟨rfl, hb⟩
  · have O := Aside0.mk (open_calls s hs)
    have R := ropen_tells k s hs (by omega)
    generalize openP s.data.toList = q at *
    obtain ⟨v, p, c⟩ := q
    dsimp only at R
    have R1 := Aside0.mk R
    clear R hk
    go_enter Try.func6, Try.ntmps6
    go_wp2_with fail
    refine (O.out _).mono ?_
    rintro e w1 ⟨rfl, hb⟩
    have HB := Aside0.mk hb
    clear hb
    go_wp2_with fail
    refine (bosunref03_Open.calls k s (v : Int) (tx p) (c : Int) _ R1.out).mono ?_
    rintro e w2 ⟨rfl, hb⟩
    have HB2 := Aside0.mk (below_step HB.out hb)
    clear hb HB
    go_wp2_with fail
    refine (bosunlaw03_Awake.calls k true _ A.out).mono ?_
    rintro e w3 ⟨rfl, hb⟩
    have HB := Aside0.mk (below_step HB2.out hb)
    clear hb HB2
    go_wp2_with fail
    go_ret
    exact ⟨rfl, HB.out⟩
end Go.Proofs.Ytlkfcamogfjngaa.Opens
