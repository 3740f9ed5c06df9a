/- CkptBursts, part 24 of 24 of its proof: for every input that meets the row's condition (laid, tied) the call returns true and each argument reads behind it as before. -/
import Derived.Test.YtlmeelmjodjfpaaGreatDoorG22
import Derived.Test.YtlmeelmjodjfpaaGreatDoorCards
import Derived.Test.YtlmeelmjodjfpaaGreatDoorTie
import Derived.SevenTiedAt
namespace Go.Proofs.YtlmeelmjodjfpaaGreatDoor
open Go
theorem ckptBursts_card : Rows.CkptBurstsCardSaid :=
  Claim7.holds_tied_plain_at .later [] [.data, .pinned] true (true, "85668117a6f5fd45d23774a6aa2161cf285572ffb42ebf47041adc843bda4bb3") false
    ckptBursts_holds (fun _ h => by cases h) (by kernel_rfl) (fun _ h => by cases h) ckptBursts_row_tie rfl ⟨rfl, rfl⟩ (by kernel_rfl) rfl
    (fun f fn hf hfn => by
      obtain rfl : f = 4 := Option.some.inj ((show Tryz.prog.funcNamed "bosun/bosunlaw21.CkptBursts" = some 4 by kernel_rfl).symm.trans hf) |>.symm
      obtain rfl : fn = Tryz.f4 := (Option.some.inj (Tryz.func4.symm.trans hfn)).symm
      exact ⟨by kernel_rfl, fun j t ht => by
        rw [Tryz.params4] at ht
        have hm : t ∈ [28, 3, 3, 40, 5] := by simpa using Array.mem_of_getElem? ht
        have hall : ([28, 3, 3, 40, 5].all fun u => !Tryz.prog.wantsStandIn u) = true := by kernel_rfl
        exact (show Tryz.prog.wantsStandIn t = false by simpa using List.all_eq_true.1 hall t hm)⟩)
    (by kernel_rfl)
end Go.Proofs.YtlmeelmjodjfpaaGreatDoor
