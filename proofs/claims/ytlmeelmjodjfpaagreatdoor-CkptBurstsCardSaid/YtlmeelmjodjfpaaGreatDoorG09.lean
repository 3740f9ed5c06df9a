/- CkptBursts, part 10 of 24 of its proof: for every input that meets the row's condition (laid, tied) the call returns true and each argument reads behind it as before. -/
import Derived.Shelf.LaysM
import Derived.Ground.NamesProg
import Derived.Shelf.Unicode.ValidAny
import Derived.Test.YtlmeelmjodjfpaaGreatDoorProg
import Derived.Test.YtlmeelmjodjfpaaGreatDoorG02
import Derived.Lib.Hide
section
set_option linter.unusedVariables false
namespace Go.Proofs
open Go.Shelf
def Tryz.laysValid_ren : Go.Shelf.Ren := ⟨fun | 196 => 157 | 259 => 165 | n => n, fun | 9 => 9 | 4 => 4 | 3 => 3 | 5 => 5 | 12 => 12 | 119 => 232 | 0 => 0 | 46 => 182 | 139 => 235 | 138 => 234 | 53 => 25 | n => n, fun | 3 => 1 | 4 => 2 | n => n⟩
theorem Tryz.laysValid : Go.Proofs.Lays.n196 Tryz.prog Tryz.laysValid_ren := {
  mixed := by kernel_rfl
  f196 := Tryz.func157.trans (congrArg some (by kernel_rfl))
  f259 := Tryz.func165.trans (congrArg some (by kernel_rfl))
  t0 := Tryz.underlying0
  a0 := Tryz.isAgg0
  z0 := Tryz.sizeOf0
  v0 := Tryz.zeroValue0
  t3 := Tryz.underlying3
  a3 := Tryz.isAgg3
  z3 := Tryz.sizeOf3
  v3 := Tryz.zeroValue3
  t4 := Tryz.underlying4
  a4 := Tryz.isAgg4
  z4 := Tryz.sizeOf4
  v4 := Tryz.zeroValue4
  t5 := Tryz.underlying5
  a5 := Tryz.isAgg5
  z5 := Tryz.sizeOf5
  v5 := Tryz.zeroValue5
  t9 := Tryz.underlying9
  a9 := Tryz.isAgg9
  z9 := Tryz.sizeOf9
  v9 := Tryz.zeroValue9
  t12 := Tryz.underlying12
  a12 := Tryz.isAgg12
  z12 := Tryz.sizeOf12
  v12 := Tryz.zeroValue12
  t46 := Tryz.underlying182
  a46 := Tryz.isAgg182
  z46 := Tryz.sizeOf182
  v46 := Tryz.zeroValue182
  t53 := Tryz.underlying25
  a53 := Tryz.isAgg25
  z53 := Tryz.sizeOf25
  v53 := Tryz.zeroValue25
  t119 := Tryz.underlying232
  a119 := Tryz.isAgg232
  z119 := Tryz.sizeOf232
  t138 := Tryz.underlying234
  a138 := Tryz.isAgg234
  z138 := Tryz.sizeOf234
  v138 := Tryz.zeroValue234
  t139 := Tryz.underlying235
  a139 := Tryz.isAgg235
  z139 := Tryz.sizeOf235
  v139 := Tryz.zeroValue235
  g3 := by kernel_rfl
  g4 := by kernel_rfl }
end Go.Proofs
end
section
namespace Go.Proofs.YtlmeelmjodjfpaaGreatDoor.PB
open Go.RowKit Go.Proofs.YtlmeelmjodjfpaaGreatDoorW.PrintWords Go.Proofs.YtlmeelmjodjfpaaGreatDoorW.PrintLast Go.Proofs.YtlmeelmjodjfpaaGreatDoorW.PrintMore
set_option linter.unusedVariables false
/-- The two tables of unicode/utf8 read as they are given. -/
def Tabs (w : World) : Prop := Lib.Utf8Tabs 1 2 w
theorem Tabs.below {w w' : World} (h : Tabs w) (hb : Below w.heap.size w w') : Tabs w' := Utf8Tabs_below h hb
def Val (s : ByteArray) : Bool := Lib.validD s.data.toList
theorem utf_Valid.calls (s : ByteArray) (w : World) (hT : Tabs w) (hs : s.size ≤ 140737488355328) :
    Calls Tryz.prog 152 #[.string s] w fun e w' => e = .returned (.bool (Val s)) ∧ Below w.heap.size w w' := by
  have cV : Calls Tryz.prog 157 #[.string s] w _ := Any.utf8_ValidString Tryz.laysValid s w (by omega) hT
  unfold Val
  generalize Lib.validD s.data.toList = V at cV ⊢
  go_enter Tryz.func152, Tryz.ntmps152
  go_wp2_with (go_at_call 157; refine cV.mono ?_; rintro e w' ⟨rfl, hb⟩)
  go_ret
  exact ⟨rfl, hb⟩
/-- What is wrong with a text. -/
def textP (s : ByteArray) : Int := if Val s then (if 4096 < s.size then 2 else 0) else 10
theorem spec_text.calls (s : ByteArray) (w : World) (hT : Tabs w) (hs : s.size ≤ 140737488355328) :
    Calls Tryz.prog 142 #[.string s] w fun e w' => e = .returned (.int .i64 (textP s)) ∧ Below w.heap.size w w' := by
  have cV := utf_Valid.calls s w hT hs
  unfold textP
  cases hv : Val s with
  | false =>
    rw [hv] at cV
    go_enter Tryz.func142, Tryz.ntmps142
    go_wp2_with (go_at_call 152; refine cV.mono ?_; rintro e w' ⟨rfl, hb⟩)
    go_ret
    exact ⟨rfl, hb⟩
  | true =>
    rw [hv] at cV
    by_cases h1 : 4096 < s.size
    · have h2 : (4096 : Int) < (s.size : Int) := by omega
      rw [if_pos rfl, if_pos h1]
      go_enter Tryz.func142, Tryz.ntmps142
      go_wp2_with (go_at_call 152; refine cV.mono ?_; rintro e w' ⟨rfl, hb⟩)
      go_ret
      exact ⟨rfl, hb⟩
    · have h2 : ¬ (4096 : Int) < (s.size : Int) := by omega
      rw [if_pos rfl, if_neg h1]
      go_enter Tryz.func142, Tryz.ntmps142
      go_wp2_with (go_at_call 152; refine cV.mono ?_; rintro e w' ⟨rfl, hb⟩)
      go_ret
      exact ⟨rfl, hb⟩
end Go.Proofs.YtlmeelmjodjfpaaGreatDoor.PB
end
