/- CkptBursts, part 18 of 24 of its proof: for every input that meets the row's condition (laid, tied) the call returns true and each argument reads behind it as before. -/
import Derived.Test.YtlmeelmjodjfpaaGreatDoorG13
import Derived.Test.YtlmeelmjodjfpaaGreatDoorG16
import Derived.Lib.SliceRun
import Derived.Test.YtlmeelmjodjfpaaGreatDoorG15
import Derived.Test.YtlmeelmjodjfpaaGreatDoorG11
import Derived.Test.YtlmeelmjodjfpaaGreatDoorG12
section
namespace Go.Proofs.YtlmeelmjodjfpaaGreatDoor.PB
open Go.RowKit Go.Maps Go.Proofs.YtlmeelmjodjfpaaGreatDoorW.PrintWords Go.Proofs.YtlmeelmjodjfpaaGreatDoorW.PrintLast Go.Proofs.YtlmeelmjodjfpaaGreatDoorW.PrintMore
open Fr (tx tx_list tx_size tx_app tx_of)
set_option linter.unusedVariables false
set_option linter.unusedSimpArgs false
set_option maxHeartbeats 1000000
set_option maxRecDepth 100000
def exC : List Value := [.string ⟨#[99]⟩, .string ⟨#[110, 103, 105, 110, 120]⟩, .slice none 0 0, .slice none 0 0, .int .i64 0, .int .i64 0, .slice none 0 0]
theorem example_.calls (w : World) : Calls Tryz.prog 112 #[] w fun e w' => ∃ d, e = .returned (.agg #[.string ⟨#[119, 101, 98]⟩, .string ⟨#[]⟩, .int .i64 0, .int .i64 0, .bool false, .slice (some ⟨d, 0, none⟩) 1 1]) ∧ w'.heap[d]? = some (.cells exC.toArray 104 (0, 0)) ∧ w.heap.size ≤ d ∧ Below w.heap.size w w' := by
  have HB := Aside0.mk (below_alloc (below_alloc (Below.refl w.heap.size w) (.cells #[.string ⟨#[]⟩, .string ⟨#[]⟩, .int .i64 0, .int .i64 0, .bool false, .slice none 0 0] 92)) (.cells exC.toArray 104))
  go_enter Tryz.func112, Tryz.ntmps112
  go_wp2_with fail
  refine bodyPost_ret (v := .agg #[.string ⟨#[119, 101, 98]⟩, .string ⟨#[]⟩, .int .i64 0, .int .i64 0, .bool false, .slice (some ⟨w.heap.size + 1, 0, none⟩) 1 1]) (by simp [results, Tryz.results112, go_sem]) rfl ?_
  have hN : ((w.alloc (.cells #[.string ⟨#[119, 101, 98]⟩, .string ⟨#[]⟩, .int .i64 0, .int .i64 0, .bool false, .slice (some ⟨w.heap.size + 1, 0, none⟩) 1 1] 92)).alloc (.cells exC.toArray 104)).heap[w.heap.size + 1]? = some (.cells exC.toArray 104 (0, 0)) := by
    have := blk_new (w.alloc (.cells #[.string ⟨#[119, 101, 98]⟩, .string ⟨#[]⟩, .int .i64 0, .int .i64 0, .bool false, .slice (some ⟨w.heap.size + 1, 0, none⟩) 1 1] 92)) (.cells exC.toArray 104)
    rwa [show (w.alloc (.cells #[.string ⟨#[119, 101, 98]⟩, .string ⟨#[]⟩, .int .i64 0, .int .i64 0, .bool false, .slice (some ⟨w.heap.size + 1, 0, none⟩) 1 1] 92)).heap.size = w.heap.size + 1 from World.size_alloc _ _] at this
  exact ⟨w.heap.size + 1, rfl, hN, by omega, below_alloc (below_alloc (Below.refl w.heap.size w) _) _⟩
theorem or_.calls (d : Int) (w : World) : Calls Tryz.prog 133 #[.int .i64 0, .int .i64 d] w fun e w' => e = .returned (.int .i64 d) ∧ w' = w := by
  go_enter Tryz.func133, Tryz.ntmps133
  go_wp2_with fail
  go_ret
  exact ⟨rfl, rfl⟩
theorem cl135.calls (w : World) : Calls Tryz.prog 135 #[.slice none 0 0] w fun e w' => e = .returned (.slice none 0 0) ∧ w' = w := by
  have e1 : ∀ W, (binOp .eql 24 (.slice none 0 0) (.slice none 0 0)).run Tryz.prog W = .ok (.bool true) W := fun W => Lib.run_eql_slice_nil W 24 9 none 0 0 0 0 (P := Tryz.prog) (by kernel_rfl)
  go_enter Tryz.func135, Tryz.ntmps135
  go_wp2_with fail
  go_ret
  exact ⟨rfl, rfl⟩
theorem cl136.calls (w : World) : Calls Tryz.prog 136 #[.slice none 0 0] w fun e w' => e = .returned (.slice none 0 0) ∧ w' = w := by
  have e1 : ∀ W, (binOp .eql 101 (.slice none 0 0) (.slice none 0 0)).run Tryz.prog W = .ok (.bool true) W := fun W => Lib.run_eql_slice_nil W 101 160 none 0 0 0 0 (P := Tryz.prog) (by kernel_rfl)
  go_enter Tryz.func136, Tryz.ntmps136
  go_wp2_with fail
  go_ret
  exact ⟨rfl, rfl⟩
theorem cl137.calls (w : World) : Calls Tryz.prog 137 #[.slice none 0 0] w fun e w' => e = .returned (.slice none 0 0) ∧ w' = w := by
  have e1 : ∀ W, (binOp .eql 102 (.slice none 0 0) (.slice none 0 0)).run Tryz.prog W = .ok (.bool true) W := fun W => Lib.run_eql_slice_nil W 102 161 none 0 0 0 0 (P := Tryz.prog) (by kernel_rfl)
  go_enter Tryz.func137, Tryz.ntmps137
  go_wp2_with fail
  go_ret
  exact ⟨rfl, rfl⟩
theorem cl134.calls {d : Nat} (w : World) (h : w.heap[d]? = some (.cells exC.toArray 104 (0, 0))) : Calls Tryz.prog 134 #[.slice (some ⟨d, 0, none⟩) 1 1] w fun e w' => ∃ g c, e = .returned (.slice (some ⟨g, 0, none⟩) 1 c) ∧ w'.ownsRow w.heap.size 104 7 (.slice (some ⟨g, 0, none⟩) 1 c) 1 exC ∧ w.heap.size ≤ g ∧ g < w'.heap.size ∧ Below w.heap.size w w' := by
  obtain ⟨i0, hi, hz0, hz1, hz2⟩ := info_parts info104
  have H := Aside0.mk h
  have hE := Aside0.mk (World.ownsRow_lit (base := w.heap.size) (e := 104) (size := 7) w #[] 0 (Nat.le_refl _) (by decide) rfl)
  have e1 : ∀ W, (binOp .eql 90 (.slice (some ⟨d, 0, none⟩) 1 1) (.slice none 0 0)).run Tryz.prog W = .ok (.bool false) W := fun W => Lib.run_eql_slice_nil W 90 104 (some ⟨d, 0, none⟩) 1 1 0 0 (P := Tryz.prog) (by kernel_rfl)
  go_enter Tryz.func134, Tryz.ntmps134
  go_wp2_with (at_builtin; go_loud (refine wpList_append_own _ rfl _ _ 90 rfl w.heap.size 104 i0 (.agg #[.string ⟨#[]⟩, .string ⟨#[]⟩, .slice none 0 0, .slice none 0 0, .int .i64 0, .int .i64 0, .slice none 0 0]) 7 120 Tryz.underlying90 hi hz0 hz1 hz2 rfl (by decide) _ _ _ rfl hE.out ⟨d, 0, none⟩ 1 1 exC rfl rfl ?c1 ?c2 ?c3 ?c4 ?c5 ?_))
  case c1 =>
    intro j u hj
    have hd : d < w.heap.size := lt_of_blk h
    have hj7 : j < 7 := by
      rcases Nat.lt_or_ge j 7 with h1 | h1
      · exact h1
      · rw [List.getElem?_eq_none (show exC.length ≤ j from h1)] at hj; cases hj
    have hq : (w.alloc (.cells #[] 104)).heap[d]? = some (.cells exC.toArray 104 (0, 0)) := ((below_alloc (Below.refl w.heap.size w) (.cells #[] 104)).block d hd).trans h
    rw [blk_cell hq]
    simpa using hj
  case c2 => intro u hu; simp [exC] at hu; rcases hu with rfl | rfl | rfl | rfl | rfl | rfl | rfl <;> rfl
  any_goals first | decide | exact Nat.le_of_lt (by simp)
  intro v w1 hr hg hn
  have hr : w1.ownsRow w.heap.size 104 7 v 1 exC := hr
  obtain ⟨g, c, rfl, h1, h2⟩ := World.ownsRow.form hr (by decide)
  have HR := Aside0.mk hr
  have HBB := Aside0.mk ((below_alloc (Below.refl w.heap.size w) (.cells #[] 104)).grown hg (below_alloc (Below.refl w.heap.size w) (.cells #[] 104)).size (fun k e => by simp [Value.ownBlock] at e; omega))
  clear hr hg hn
  go_wp2
  go_ret
  exact ⟨g, c, rfl, HR.out, h1, h2, HBB.out⟩
end Go.Proofs.YtlmeelmjodjfpaaGreatDoor.PB
end
section
namespace Go.Proofs.YtlmeelmjodjfpaaGreatDoor.PB
open Go.RowKit Go.Maps Go.Proofs.YtlmeelmjodjfpaaGreatDoorW.PrintWords Go.Proofs.YtlmeelmjodjfpaaGreatDoorW.PrintLast Go.Proofs.YtlmeelmjodjfpaaGreatDoorW.PrintMore
open Fr (tx tx_list tx_size tx_app tx_of)
set_option linter.unusedVariables false
set_option linter.unusedSimpArgs false
set_option maxHeartbeats 1000000
set_option maxRecDepth 100000
def exD (a b : Int) : List Value := [.string ⟨#[99]⟩, .string ⟨#[110, 103, 105, 110, 120]⟩, .slice none 0 0, .slice none 0 0, .int .i64 a, .int .i64 b, .slice none 0 0]
/-- The pod's block. -/
def PodB (N : Nat) (g c : Nat) (w : World) : Prop := w.heap[N]? = some (.cells #[.string ⟨#[119, 101, 98]⟩, .string ⟨#[100, 101, 102, 97, 117, 108, 116]⟩, .int .i64 0, .int .i64 30, .bool false, .slice (some ⟨g, 0, none⟩) 1 c] 92 (0, 0))
def PodZ (N : Nat) (w : World) : Prop := w.heap[N]? = some (.cells #[.string ⟨#[]⟩, .string ⟨#[]⟩, .int .i64 0, .int .i64 0, .bool false, .slice none 0 0] 92 (0, 0))
/-- What stands while the container is looked at. -/
structure DF (w : World) (g c : Nat) (a b : Int) (W : World) : Prop where
  pod : PodB w.heap.size g c W
  res : PodZ (w.heap.size + 1) W
  row : W.ownsRow w.heap.size 104 7 (.slice (some ⟨g, 0, none⟩) 1 c) 1 (exD a b)
  far : w.heap.size + 2 ≤ g
  below : Below w.heap.size w W
theorem DF.cell {w W : World} {g c : Nat} {a b : Int} (h : DF w g c a b W) (j : Nat) (hj : j < 7) : W.cell? ⟨g, j, none⟩ = (exD a b)[j]? := World.ownsRow.cellAt h.row j hj
theorem DF.froz {w W : World} {g c : Nat} {a b : Int} (h : DF w g c a b W) (j : Nat) : W.frozen? ⟨g, j, none⟩ = false := World.ownsRow.frozenAt h.row j
theorem DF.drewN {w W : World} {g c : Nat} {a b : Int} (h : DF w g c a b W) (n : Nat) : DF w g c a b (W.drewN n) := by
  have hb : Below W.heap.size W (W.drewN n) := pw_below_drewN (Below.refl _ _) _
  have e : (W.drewN n).heap = W.heap := rfl
  exact ⟨by unfold PodB; rw [e]; exact h.pod, by unfold PodZ; rw [e]; exact h.res, by unfold World.ownsRow; rw [e]; exact h.row, h.far, below_step h.below hb⟩
theorem two_worlds (w : World) (A B : Obj) : ((w.alloc A).alloc B).heap[w.heap.size]? = some A ∧ ((w.alloc A).alloc B).heap[w.heap.size + 1]? = some B ∧ ((w.alloc A).alloc B).heap.size = w.heap.size + 2 ∧ Below w.heap.size w ((w.alloc A).alloc B) := by
  have h1 := blk_new (w.alloc A) B
  rw [World.size_alloc] at h1
  exact ⟨((below_alloc (Below.refl (w.alloc A).heap.size (w.alloc A)) B).block w.heap.size (by simp)).trans (blk_new w A), h1, by simp, below_alloc (below_alloc (Below.refl w.heap.size w) A) B⟩
theorem DF.of {w W : World} {g c d : Nat} (hp : W.heap[w.heap.size]? = some (.cells #[.string ⟨#[119, 101, 98]⟩, .string ⟨#[100, 101, 102, 97, 117, 108, 116]⟩, .int .i64 0, .int .i64 30, .bool false, .slice (some ⟨d, 0, none⟩) 1 1] 92 (0, 0))) (hz : PodZ (w.heap.size + 1) W)
    (hr : W.ownsRow w.heap.size 104 7 (.slice (some ⟨g, 0, none⟩) 1 c) 1 exC) (hg : w.heap.size + 2 ≤ g) (hb : Below w.heap.size w W) : DF w g c 0 0 (W.setCell ⟨w.heap.size, 5, none⟩ (.slice (some ⟨g, 0, none⟩) 1 c)) :=
  ⟨blk_put hp 5 _ rfl, ((KeepBut.refl W w.heap.size none).set_ 5 _).blk hz (by omega) (by simp), ownsRow_setCell_other hr (by simp [Value.ownBlock]; omega) _, hg, hb.setCell (Nat.le_refl _) _⟩
theorem DF.put4 {w W : World} {g c : Nat} {a b : Int} (h : DF w g c a b W) (x : Int) : DF w g c x b (W.setCell ⟨g, 4, none⟩ (.int .i64 x)) :=
  ⟨((KeepBut.refl W g none).set_ 4 _).blk h.pod (by have := h.far; omega) (by simp), ((KeepBut.refl W g none).set_ 4 _).blk h.res (by have := h.far; omega) (by simp), (World.ownsRow.stored h.row 4 (.int .i64 x)).1, h.far, h.below.setCell (by have := h.far; show w.heap.size ≤ g; omega) _⟩
theorem DF.put5 {w W : World} {g c : Nat} {a b : Int} (h : DF w g c a b W) (x : Int) : DF w g c a x (W.setCell ⟨g, 5, none⟩ (.int .i64 x)) :=
  ⟨((KeepBut.refl W g none).set_ 5 _).blk h.pod (by have := h.far; omega) (by simp), ((KeepBut.refl W g none).set_ 5 _).blk h.res (by have := h.far; omega) (by simp), (World.ownsRow.stored h.row 5 (.int .i64 x)).1, h.far, h.below.setCell (by have := h.far; show w.heap.size ≤ g; omega) _⟩
theorem DF.nil_ {w W : World} {g c : Nat} {a b : Int} (h : DF w g c a b W) (j : Nat) (hj : j = 2 ∨ j = 3 ∨ j = 6) : DF w g c a b (W.setCell ⟨g, j, none⟩ (.slice none 0 0)) :=
  ⟨((KeepBut.refl W g none).set_ j _).blk h.pod (by have := h.far; omega) (by simp), ((KeepBut.refl W g none).set_ j _).blk h.res (by have := h.far; omega) (by simp), by
    have := World.ownsRow.stored h.row j (.slice none 0 0)
    rcases hj with rfl | rfl | rfl <;> exact this.1, h.far, h.below.setCell (by have := h.far; show w.heap.size ≤ g; omega) _⟩
theorem DF.next {P : Program} {C : Code} {Q : Exit → Act → World → Prop} {n : Nat} {x : Act} {w W' : World} {g c : Nat} {a b : Int}
    (h : DF w g c a b W') (k : ∀ W, Aside0 (DF w g c a b W) → W.cell? ⟨w.heap.size, 5, none⟩ = some (.slice (some ⟨g, 0, none⟩) 1 c) → Code.rounds P C Q n x W) : Code.rounds P C Q n x W' := k W' (Aside0.mk h) ((blk_cell h.pod 5).trans rfl)
theorem default_.calls {d : Nat} (w : World) (h : w.heap[d]? = some (.cells exC.toArray 104 (0, 0))) : Calls Tryz.prog 113 #[.agg #[.string ⟨#[119, 101, 98]⟩, .string ⟨#[]⟩, .int .i64 0, .int .i64 0, .bool false, .slice (some ⟨d, 0, none⟩) 1 1]] w fun e w' => ∃ g c, e = .returned (.agg #[.string ⟨#[119, 101, 98]⟩, .string ⟨#[100, 101, 102, 97, 117, 108, 116]⟩, .int .i64 0, .int .i64 30, .bool false, .slice (some ⟨g, 0, none⟩) 1 c]) ∧ w'.ownsRow w.heap.size 104 7 (.slice (some ⟨g, 0, none⟩) 1 c) 1 (exD 100 64) ∧ Below w.heap.size w w' := by
  have hd := lt_of_blk h
  have H := Aside0.mk h
  clear h
  have HW := Aside0.mk (two_worlds w (.cells #[.string ⟨#[119, 101, 98]⟩, .string ⟨#[100, 101, 102, 97, 117, 108, 116]⟩, .int .i64 0, .int .i64 30, .bool false, .slice (some ⟨d, 0, none⟩) 1 1] 92) (.cells #[.string ⟨#[]⟩, .string ⟨#[]⟩, .int .i64 0, .int .i64 0, .bool false, .slice none 0 0] 92))
  go_enter Tryz.func113, Tryz.ntmps113
  go_wp2_with (first | (go_at_call 133; go_loud (with_reducible refine (or_.calls 30 _).mono ?_); rintro e w1 ⟨rfl, rfl⟩))
  generalize (w.alloc (.cells #[.string ⟨#[119, 101, 98]⟩, .string ⟨#[100, 101, 102, 97, 117, 108, 116]⟩, .int .i64 0, .int .i64 30, .bool false, .slice (some ⟨d, 0, none⟩) 1 1] 92)).alloc (.cells #[.string ⟨#[]⟩, .string ⟨#[]⟩, .int .i64 0, .int .i64 0, .bool false, .slice none 0 0] 92) = W at HW ⊢
  go_wp2_with (go_at_call 134; (refine (cl134.calls _ ((HW.out.2.2.2.block d hd).trans H.out)).mono ?_); rintro e w1 ⟨g, c, rfl, hr, hg, hg1, hb⟩; have HP := Aside0.mk ((hb.block w.heap.size (by have := HW.out.2.2.1; omega)).trans HW.out.1); have HZ := Aside0.mk ((hb.block (w.heap.size + 1) (by have := HW.out.2.2.1; omega)).trans HW.out.2.1); have HB := Aside0.mk (below_step HW.out.2.2.2 hb); have HG := Aside0.mk (show w.heap.size + 2 ≤ g by have := HW.out.2.2.1; omega); have HR := Aside0.mk (own_mono hr HW.out.2.2.2.size); clear hr hg hg1 hb; have cb5 := (blk_cell HP.out 5).trans rfl; have fb5 := blk_frozen HP.out 5)
  refine wp_loop_rounds 2 ?_
  refine DF.next (DF.of HP.out HZ.out HR.out HG.out HB.out) ?_
  clear HP HZ HR HG HB HW H cb5 fb5
  intro W2 HD cb5
  rw [rounds_succ]
  go_wp2
  have cz4 : W2.cell? ⟨g, 4, none⟩ = some (.int .i64 0) := HD.out.cell 4 (by decide)
  have cz5 : W2.cell? ⟨g, 5, none⟩ = some (.int .i64 0) := HD.out.cell 5 (by decide)
  have fz4 := HD.out.froz 4
  have fz5 := HD.out.froz 5
  refine start_ (n := 18) (S := fun w' => w'.cell? ⟨g, 4, none⟩ = some (.int .i64 0) ∧ w'.cell? ⟨g, 5, none⟩ = some (.int .i64 0) ∧ DF w g c 0 0 w') (ds := [14, 17]) #[false, false, false, false, false, false, false, false, false, false, false, false, false, false, false, false, false, false] (by kernel_rfl) rfl rfl ⟨((HD.out.drewN 1).cell 4 (by decide)), ((HD.out.drewN 1).cell 5 (by decide)), (HD.out.drewN 1)⟩ (fun hHeld => ?_)
  refine pure_ (i := 0) (N := some 27) (v := ?_) (a' := ?_) #[true, false, false, false, false, false, false, false, false, false, false, false, false, false, false, false, false, false] rfl rfl (by kernel_rfl) (fun _ _ _ h => h) (Or.inl ⟨by rfl, ?_⟩) ?_ ?_
  rotate_left
  · intro w'
    go_simp
    with_reducible rfl
  rotate_left
  · simp only [Act.put, List.setIfInBounds_toArray, List.set_cons_zero, List.set_cons_succ, i64_w, i32_w]
    rfl
  refine pure_ (i := 1) (N := some 28) (v := ?_) (a' := ?_) #[true, true, false, false, false, false, false, false, false, false, false, false, false, false, false, false, false, false] rfl rfl (by kernel_rfl) (fun _ _ _ h => h) (Or.inl ⟨by rfl, ?_⟩) ?_ ?_
  rotate_left
  · intro w'
    go_simp
    with_reducible rfl
  rotate_left
  · simp only [Act.put, List.setIfInBounds_toArray, List.set_cons_zero, List.set_cons_succ, i64_w, i32_w]
    rfl
  refine pure_ (i := 2) (N := some 29) (v := ?_) (a' := ?_) #[true, true, true, false, false, false, false, false, false, false, false, false, false, false, false, false, false, false] rfl rfl (by kernel_rfl) (fun _ _ _ h => h) (Or.inl ⟨by rfl, ?_⟩) ?_ ?_
  rotate_left
  · intro w'
    go_simp
    with_reducible rfl
  rotate_left
  · simp only [Act.put, List.setIfInBounds_toArray, List.set_cons_zero, List.set_cons_succ, i64_w, i32_w]
    rfl
  refine pure_ (i := 3) (N := some 30) (v := ?_) (a' := ?_) #[true, true, true, true, false, false, false, false, false, false, false, false, false, false, false, false, false, false] rfl rfl (by kernel_rfl) (fun _ _ _ h => h) (Or.inl ⟨by rfl, ?_⟩) ?_ ?_
  rotate_left
  · intro w'
    go_simp
    with_reducible rfl
  rotate_left
  · simp only [Act.put, List.setIfInBounds_toArray, List.set_cons_zero, List.set_cons_succ, i64_w, i32_w]
    rfl
  refine pure_ (i := 4) (N := some 31) (v := ?_) (a' := ?_) #[true, true, true, true, true, false, false, false, false, false, false, false, false, false, false, false, false, false] rfl rfl (by kernel_rfl) (fun _ _ _ h => h) (Or.inl ⟨by rfl, ?_⟩) ?_ ?_
  rotate_left
  · intro w'
    go_simp
    with_reducible rfl
  rotate_left
  · simp only [Act.put, List.setIfInBounds_toArray, List.set_cons_zero, List.set_cons_succ, i64_w, i32_w]
    rfl
  refine pure_ (i := 7) (N := some 34) (v := ?_) (a' := ?_) #[true, true, true, true, true, false, false, true, false, false, false, false, false, false, false, false, false, false] rfl rfl (by kernel_rfl) (fun _ _ _ h => h) (Or.inl ⟨by rfl, ?_⟩) ?_ ?_
  rotate_left
  · intro w'
    go_simp
    with_reducible rfl
  rotate_left
  · simp only [Act.put, List.setIfInBounds_toArray, List.set_cons_zero, List.set_cons_succ, i64_w, i32_w]
    rfl
  refine pure_ (i := 8) (N := some 35) (v := ?_) (a' := ?_) #[true, true, true, true, true, false, false, true, true, false, false, false, false, false, false, false, false, false] rfl rfl (by kernel_rfl) (fun _ _ _ h => h) (Or.inl ⟨by rfl, ?_⟩) ?_ ?_
  rotate_left
  · intro w'
    go_simp
    with_reducible rfl
  rotate_left
  · simp only [Act.put, List.setIfInBounds_toArray, List.set_cons_zero, List.set_cons_succ, i64_w, i32_w]
    rfl
  refine pure_ (i := 9) (N := some 36) (v := ?_) (a' := ?_) #[true, true, true, true, true, false, false, true, true, true, false, false, false, false, false, false, false, false] rfl rfl (by kernel_rfl) (fun _ _ _ h => h) (Or.inl ⟨by rfl, ?_⟩) ?_ ?_
  rotate_left
  · intro w'
    go_simp
    with_reducible rfl
  rotate_left
  · simp only [Act.put, List.setIfInBounds_toArray, List.set_cons_zero, List.set_cons_succ, i64_w, i32_w]
    rfl
  refine take_ (i := 5) (N := some 32) (v := ?_) (a' := ?_) #[true, true, true, true, true, true, false, true, true, true, false, false, false, false, false, false, false, false] rfl rfl (by kernel_rfl) (fun _ _ _ h => h) (Or.inl ⟨by rfl, ?_⟩) hHeld ?_ ?_
  rotate_left
  · rintro w' ⟨s0, s1, s2⟩
    go_simp
    with_reducible rfl
  rotate_left
  · simp only [Act.put, List.setIfInBounds_toArray, List.set_cons_zero, List.set_cons_succ, i64_w, i32_w]
    rfl
  refine take_ (i := 10) (N := some 37) (v := ?_) (a' := ?_) #[true, true, true, true, true, true, false, true, true, true, true, false, false, false, false, false, false, false] rfl rfl (by kernel_rfl) (fun _ _ _ h => h) (Or.inl ⟨by rfl, ?_⟩) hHeld ?_ ?_
  rotate_left
  · rintro w' ⟨s0, s1, s2⟩
    go_simp
    with_reducible rfl
  rotate_left
  · simp only [Act.put, List.setIfInBounds_toArray, List.set_cons_zero, List.set_cons_succ, i64_w, i32_w]
    rfl
  refine one_ (i := 6) (N := some 33) #[true, true, true, true, true, true, true, true, true, true, true, false, false, false, false, false, false, false] rfl rfl (by kernel_rfl) (by decide) (fun K hK => ?_)
  refine goes_ Tryz.func133 (by kernel_rfl) rfl #[.int .i64 0, .int .i64 100] (by rfl) rfl rfl (by simp only [List.map_toArray, List.map_cons, List.map_nil]; rfl) ?_
  with_reducible refine (or_.calls 100 _).mono ?_
  rintro e w3 ⟨rfl, rfl⟩
  refine ⟨_, rfl, ?_⟩
  refine hK.out _ _ ⟨hHeld.1, hHeld.2.1, hHeld.2.2⟩ (fun hNow => ?_)
  clear hK K hHeld
  have hHeld := hNow
  clear hNow
  refine norm_ (a' := ?_) ?_ ?_
  rotate_left
  · show Act.put _ (some 33) _ = _
    simp only [Act.put, List.setIfInBounds_toArray, List.set_cons_zero, List.set_cons_succ, i64_w, i32_w]
    rfl
  refine one_ (i := 11) (N := some 38) #[true, true, true, true, true, true, true, true, true, true, true, true, false, false, false, false, false, false] rfl rfl (by kernel_rfl) (by decide) (fun K hK => ?_)
  refine goes_ Tryz.func133 (by kernel_rfl) rfl #[.int .i64 0, .int .i64 64] (by rfl) rfl rfl (by simp only [List.map_toArray, List.map_cons, List.map_nil]; rfl) ?_
  with_reducible refine (or_.calls 64 _).mono ?_
  rintro e w3 ⟨rfl, rfl⟩
  refine ⟨_, rfl, ?_⟩
  refine hK.out _ _ ⟨hHeld.1, hHeld.2.1, hHeld.2.2⟩ (fun hNow => ?_)
  clear hK K hHeld
  have hHeld := hNow
  clear hNow
  refine norm_ (a' := ?_) ?_ ?_
  rotate_left
  · show Act.put _ (some 38) _ = _
    simp only [Act.put, List.setIfInBounds_toArray, List.set_cons_zero, List.set_cons_succ, i64_w, i32_w]
    rfl
  refine pure_ (i := 12) (N := some 39) (v := ?_) (a' := ?_) #[true, true, true, true, true, true, true, true, true, true, true, true, true, false, false, false, false, false] rfl rfl (by kernel_rfl) (fun _ _ _ h => h) (Or.inl ⟨by rfl, ?_⟩) ?_ ?_
  rotate_left
  · intro w'
    go_simp
    with_reducible rfl
  rotate_left
  · simp only [Act.put, List.setIfInBounds_toArray, List.set_cons_zero, List.set_cons_succ, i64_w, i32_w]
    rfl
  refine pure_ (i := 13) (N := some 40) (v := ?_) (a' := ?_) #[true, true, true, true, true, true, true, true, true, true, true, true, true, true, false, false, false, false] rfl rfl (by kernel_rfl) (fun _ _ _ h => h) (Or.inl ⟨by rfl, ?_⟩) ?_ ?_
  rotate_left
  · intro w'
    go_simp
    with_reducible rfl
  rotate_left
  · simp only [Act.put, List.setIfInBounds_toArray, List.set_cons_zero, List.set_cons_succ, i64_w, i32_w]
    rfl
  refine last_ (i := 14) (N := none) #[true, true, true, true, true, true, true, true, true, true, true, true, true, true, true, false, false, false] rfl rfl (by kernel_rfl) (by decide) (fun K hK => ?_)
  have HW9 := Aside0.mk hHeld.2.2
  refine skip_ (w1 := ?_) (by rfl) rfl ?_ ?_
  rotate_left
  · go_simp
    rfl
  refine hK.out _ _ ?_
  clear hK K
  refine pure_ (i := 15) (N := some 41) (v := ?_) (a' := ?_) #[true, true, true, true, true, true, true, true, true, true, true, true, true, true, true, true, false, false] rfl rfl (by kernel_rfl) (fun _ _ _ h => h) (Or.inl ⟨by rfl, ?_⟩) ?_ ?_
  rotate_left
  · intro w'
    go_simp
    with_reducible rfl
  rotate_left
  · simp only [Act.put, List.setIfInBounds_toArray, List.set_cons_zero, List.set_cons_succ, i64_w, i32_w]
    rfl
  refine pure_ (i := 16) (N := some 42) (v := ?_) (a' := ?_) #[true, true, true, true, true, true, true, true, true, true, true, true, true, true, true, true, true, false] rfl rfl (by kernel_rfl) (fun _ _ _ h => h) (Or.inl ⟨by rfl, ?_⟩) ?_ ?_
  rotate_left
  · intro w'
    go_simp
    with_reducible rfl
  rotate_left
  · simp only [Act.put, List.setIfInBounds_toArray, List.set_cons_zero, List.set_cons_succ, i64_w, i32_w]
    rfl
  refine last_ (i := 17) (N := none) #[true, true, true, true, true, true, true, true, true, true, true, true, true, true, true, true, true, true] rfl rfl (by kernel_rfl) (by decide) (fun K hK => ?_)
  refine skip_ (w1 := ?_) (by rfl) rfl ?_ ?_
  rotate_left
  · go_simp
    rfl
  refine hK.out _ _ ?_
  clear hK K
  refine done_ (by kernel_rfl) ?_
  have HQ : DF w g c 100 64 (((W2.setCell ⟨g, 4, none⟩ (.int .i64 100)).setCell ⟨g, 5, none⟩ (.int .i64 64)).drew) := ((HD.out.put4 100).put5 64).drewN 1
  generalize ((W2.setCell ⟨g, 4, none⟩ (.int .i64 100)).setCell ⟨g, 5, none⟩ (.int .i64 64)).drew = W3 at HQ ⊢
  clear HD HW9 cz4 cz5 fz4 fz5
  have HD := Aside0.mk HQ
  clear HQ
  go_wp2
  have cz2 : W3.cell? ⟨g, 2, none⟩ = some (.slice none 0 0) := HD.out.cell 2 (by decide)
  have cz3 : W3.cell? ⟨g, 3, none⟩ = some (.slice none 0 0) := HD.out.cell 3 (by decide)
  have cz6 : W3.cell? ⟨g, 6, none⟩ = some (.slice none 0 0) := HD.out.cell 6 (by decide)
  have fz2 := HD.out.froz 2
  have fz3 := HD.out.froz 3
  have fz6 := HD.out.froz 6
  refine start_ (n := 27) (S := fun w' => w'.cell? ⟨g, 2, none⟩ = some (.slice none 0 0) ∧ w'.cell? ⟨g, 3, none⟩ = some (.slice none 0 0) ∧ w'.cell? ⟨g, 6, none⟩ = some (.slice none 0 0) ∧ DF w g c 100 64 w') (ds := [20, 23, 26]) #[false, false, false, false, false, false, false, false, false, false, false, false, false, false, false, false, false, false, false, false, false, false, false, false, false, false, false] (by kernel_rfl) rfl rfl ⟨((HD.out.drewN 1).cell 2 (by decide)), ((HD.out.drewN 1).cell 3 (by decide)), ((HD.out.drewN 1).cell 6 (by decide)), (HD.out.drewN 1)⟩ (fun hHeld => ?_)
  refine pure_ (i := 0) (N := some 43) (v := ?_) (a' := ?_) #[true, false, false, false, false, false, false, false, false, false, false, false, false, false, false, false, false, false, false, false, false, false, false, false, false, false, false] rfl rfl (by kernel_rfl) (fun _ _ _ h => h) (Or.inl ⟨by rfl, ?_⟩) ?_ ?_
  rotate_left
  · intro w'
    go_simp
    with_reducible rfl
  rotate_left
  · simp only [Act.put, List.setIfInBounds_toArray, List.set_cons_zero, List.set_cons_succ, i64_w, i32_w]
    rfl
  refine pure_ (i := 1) (N := some 44) (v := ?_) (a' := ?_) #[true, true, false, false, false, false, false, false, false, false, false, false, false, false, false, false, false, false, false, false, false, false, false, false, false, false, false] rfl rfl (by kernel_rfl) (fun _ _ _ h => h) (Or.inl ⟨by rfl, ?_⟩) ?_ ?_
  rotate_left
  · intro w'
    go_simp
    with_reducible rfl
  rotate_left
  · simp only [Act.put, List.setIfInBounds_toArray, List.set_cons_zero, List.set_cons_succ, i64_w, i32_w]
    rfl
  refine pure_ (i := 2) (N := some 45) (v := ?_) (a' := ?_) #[true, true, true, false, false, false, false, false, false, false, false, false, false, false, false, false, false, false, false, false, false, false, false, false, false, false, false] rfl rfl (by kernel_rfl) (fun _ _ _ h => h) (Or.inl ⟨by rfl, ?_⟩) ?_ ?_
  rotate_left
  · intro w'
    go_simp
    with_reducible rfl
  rotate_left
  · simp only [Act.put, List.setIfInBounds_toArray, List.set_cons_zero, List.set_cons_succ, i64_w, i32_w]
    rfl
  refine pure_ (i := 3) (N := some 46) (v := ?_) (a' := ?_) #[true, true, true, true, false, false, false, false, false, false, false, false, false, false, false, false, false, false, false, false, false, false, false, false, false, false, false] rfl rfl (by kernel_rfl) (fun _ _ _ h => h) (Or.inl ⟨by rfl, ?_⟩) ?_ ?_
  rotate_left
  · intro w'
    go_simp
    with_reducible rfl
  rotate_left
  · simp only [Act.put, List.setIfInBounds_toArray, List.set_cons_zero, List.set_cons_succ, i64_w, i32_w]
    rfl
  refine pure_ (i := 4) (N := some 47) (v := ?_) (a' := ?_) #[true, true, true, true, true, false, false, false, false, false, false, false, false, false, false, false, false, false, false, false, false, false, false, false, false, false, false] rfl rfl (by kernel_rfl) (fun _ _ _ h => h) (Or.inl ⟨by rfl, ?_⟩) ?_ ?_
  rotate_left
  · intro w'
    go_simp
    with_reducible rfl
  rotate_left
  · simp only [Act.put, List.setIfInBounds_toArray, List.set_cons_zero, List.set_cons_succ, i64_w, i32_w]
    rfl
  refine pure_ (i := 5) (N := some 48) (v := ?_) (a' := ?_) #[true, true, true, true, true, true, false, false, false, false, false, false, false, false, false, false, false, false, false, false, false, false, false, false, false, false, false] rfl rfl (by kernel_rfl) (fun _ _ _ h => h) (Or.inl ⟨by rfl, ?_⟩) ?_ ?_
  rotate_left
  · intro w'
    go_simp
    with_reducible rfl
  rotate_left
  · simp only [Act.put, List.setIfInBounds_toArray, List.set_cons_zero, List.set_cons_succ, i64_w, i32_w]
    rfl
  refine pure_ (i := 8) (N := some 51) (v := ?_) (a' := ?_) #[true, true, true, true, true, true, false, false, true, false, false, false, false, false, false, false, false, false, false, false, false, false, false, false, false, false, false] rfl rfl (by kernel_rfl) (fun _ _ _ h => h) (Or.inl ⟨by rfl, ?_⟩) ?_ ?_
  rotate_left
  · intro w'
    go_simp
    with_reducible rfl
  rotate_left
  · simp only [Act.put, List.setIfInBounds_toArray, List.set_cons_zero, List.set_cons_succ, i64_w, i32_w]
    rfl
  refine pure_ (i := 9) (N := some 52) (v := ?_) (a' := ?_) #[true, true, true, true, true, true, false, false, true, true, false, false, false, false, false, false, false, false, false, false, false, false, false, false, false, false, false] rfl rfl (by kernel_rfl) (fun _ _ _ h => h) (Or.inl ⟨by rfl, ?_⟩) ?_ ?_
  rotate_left
  · intro w'
    go_simp
    with_reducible rfl
  rotate_left
  · simp only [Act.put, List.setIfInBounds_toArray, List.set_cons_zero, List.set_cons_succ, i64_w, i32_w]
    rfl
  refine pure_ (i := 10) (N := some 53) (v := ?_) (a' := ?_) #[true, true, true, true, true, true, false, false, true, true, true, false, false, false, false, false, false, false, false, false, false, false, false, false, false, false, false] rfl rfl (by kernel_rfl) (fun _ _ _ h => h) (Or.inl ⟨by rfl, ?_⟩) ?_ ?_
  rotate_left
  · intro w'
    go_simp
    with_reducible rfl
  rotate_left
  · simp only [Act.put, List.setIfInBounds_toArray, List.set_cons_zero, List.set_cons_succ, i64_w, i32_w]
    rfl
  refine pure_ (i := 13) (N := some 56) (v := ?_) (a' := ?_) #[true, true, true, true, true, true, false, false, true, true, true, false, false, true, false, false, false, false, false, false, false, false, false, false, false, false, false] rfl rfl (by kernel_rfl) (fun _ _ _ h => h) (Or.inl ⟨by rfl, ?_⟩) ?_ ?_
  rotate_left
  · intro w'
    go_simp
    with_reducible rfl
  rotate_left
  · simp only [Act.put, List.setIfInBounds_toArray, List.set_cons_zero, List.set_cons_succ, i64_w, i32_w]
    rfl
  refine pure_ (i := 14) (N := some 57) (v := ?_) (a' := ?_) #[true, true, true, true, true, true, false, false, true, true, true, false, false, true, true, false, false, false, false, false, false, false, false, false, false, false, false] rfl rfl (by kernel_rfl) (fun _ _ _ h => h) (Or.inl ⟨by rfl, ?_⟩) ?_ ?_
  rotate_left
  · intro w'
    go_simp
    with_reducible rfl
  rotate_left
  · simp only [Act.put, List.setIfInBounds_toArray, List.set_cons_zero, List.set_cons_succ, i64_w, i32_w]
    rfl
  refine pure_ (i := 15) (N := some 58) (v := ?_) (a' := ?_) #[true, true, true, true, true, true, false, false, true, true, true, false, false, true, true, true, false, false, false, false, false, false, false, false, false, false, false] rfl rfl (by kernel_rfl) (fun _ _ _ h => h) (Or.inl ⟨by rfl, ?_⟩) ?_ ?_
  rotate_left
  · intro w'
    go_simp
    with_reducible rfl
  rotate_left
  · simp only [Act.put, List.setIfInBounds_toArray, List.set_cons_zero, List.set_cons_succ, i64_w, i32_w]
    rfl
  refine take_ (i := 6) (N := some 49) (v := ?_) (a' := ?_) #[true, true, true, true, true, true, true, false, true, true, true, false, false, true, true, true, false, false, false, false, false, false, false, false, false, false, false] rfl rfl (by kernel_rfl) (fun _ _ _ h => h) (Or.inl ⟨by rfl, ?_⟩) hHeld ?_ ?_
  rotate_left
  · rintro w' ⟨s0, s1, s2, s3⟩
    go_simp
    with_reducible rfl
  rotate_left
  · simp only [Act.put, List.setIfInBounds_toArray, List.set_cons_zero, List.set_cons_succ, i64_w, i32_w]
    rfl
  refine take_ (i := 11) (N := some 54) (v := ?_) (a' := ?_) #[true, true, true, true, true, true, true, false, true, true, true, true, false, true, true, true, false, false, false, false, false, false, false, false, false, false, false] rfl rfl (by kernel_rfl) (fun _ _ _ h => h) (Or.inl ⟨by rfl, ?_⟩) hHeld ?_ ?_
  rotate_left
  · rintro w' ⟨s0, s1, s2, s3⟩
    go_simp
    with_reducible rfl
  rotate_left
  · simp only [Act.put, List.setIfInBounds_toArray, List.set_cons_zero, List.set_cons_succ, i64_w, i32_w]
    rfl
  refine take_ (i := 16) (N := some 59) (v := ?_) (a' := ?_) #[true, true, true, true, true, true, true, false, true, true, true, true, false, true, true, true, true, false, false, false, false, false, false, false, false, false, false] rfl rfl (by kernel_rfl) (fun _ _ _ h => h) (Or.inl ⟨by rfl, ?_⟩) hHeld ?_ ?_
  rotate_left
  · rintro w' ⟨s0, s1, s2, s3⟩
    go_simp
    with_reducible rfl
  rotate_left
  · simp only [Act.put, List.setIfInBounds_toArray, List.set_cons_zero, List.set_cons_succ, i64_w, i32_w]
    rfl
  refine one_ (i := 7) (N := some 50) #[true, true, true, true, true, true, true, true, true, true, true, true, false, true, true, true, true, false, false, false, false, false, false, false, false, false, false] rfl rfl (by kernel_rfl) (by decide) (fun K hK => ?_)
  refine goes_ Tryz.func135 (by kernel_rfl) rfl #[.slice none 0 0] (by rfl) rfl rfl (by simp only [List.map_toArray, List.map_cons, List.map_nil]; rfl) ?_
  with_reducible refine (cl135.calls _).mono ?_
  rintro e w3 ⟨rfl, rfl⟩
  refine ⟨_, rfl, ?_⟩
  refine hK.out _ _ ⟨hHeld.1, hHeld.2.1, hHeld.2.2.1, hHeld.2.2.2⟩ (fun hNow => ?_)
  clear hK K hHeld
  have hHeld := hNow
  clear hNow
  refine norm_ (a' := ?_) ?_ ?_
  rotate_left
  · show Act.put _ (some 50) _ = _
    simp only [Act.put, List.setIfInBounds_toArray, List.set_cons_zero, List.set_cons_succ, i64_w, i32_w]
    rfl
  refine one_ (i := 12) (N := some 55) #[true, true, true, true, true, true, true, true, true, true, true, true, true, true, true, true, true, false, false, false, false, false, false, false, false, false, false] rfl rfl (by kernel_rfl) (by decide) (fun K hK => ?_)
  refine goes_ Tryz.func136 (by kernel_rfl) rfl #[.slice none 0 0] (by rfl) rfl rfl (by simp only [List.map_toArray, List.map_cons, List.map_nil]; rfl) ?_
  with_reducible refine (cl136.calls _).mono ?_
  rintro e w3 ⟨rfl, rfl⟩
  refine ⟨_, rfl, ?_⟩
  refine hK.out _ _ ⟨hHeld.1, hHeld.2.1, hHeld.2.2.1, hHeld.2.2.2⟩ (fun hNow => ?_)
  clear hK K hHeld
  have hHeld := hNow
  clear hNow
  refine norm_ (a' := ?_) ?_ ?_
  rotate_left
  · show Act.put _ (some 55) _ = _
    simp only [Act.put, List.setIfInBounds_toArray, List.set_cons_zero, List.set_cons_succ, i64_w, i32_w]
    rfl
  refine one_ (i := 17) (N := some 60) #[true, true, true, true, true, true, true, true, true, true, true, true, true, true, true, true, true, true, false, false, false, false, false, false, false, false, false] rfl rfl (by kernel_rfl) (by decide) (fun K hK => ?_)
  refine goes_ Tryz.func137 (by kernel_rfl) rfl #[.slice none 0 0] (by rfl) rfl rfl (by simp only [List.map_toArray, List.map_cons, List.map_nil]; rfl) ?_
  with_reducible refine (cl137.calls _).mono ?_
  rintro e w3 ⟨rfl, rfl⟩
  refine ⟨_, rfl, ?_⟩
  refine hK.out _ _ ⟨hHeld.1, hHeld.2.1, hHeld.2.2.1, hHeld.2.2.2⟩ (fun hNow => ?_)
  clear hK K hHeld
  have hHeld := hNow
  clear hNow
  refine norm_ (a' := ?_) ?_ ?_
  rotate_left
  · show Act.put _ (some 60) _ = _
    simp only [Act.put, List.setIfInBounds_toArray, List.set_cons_zero, List.set_cons_succ, i64_w, i32_w]
    rfl
  refine pure_ (i := 18) (N := some 61) (v := ?_) (a' := ?_) #[true, true, true, true, true, true, true, true, true, true, true, true, true, true, true, true, true, true, true, false, false, false, false, false, false, false, false] rfl rfl (by kernel_rfl) (fun _ _ _ h => h) (Or.inl ⟨by rfl, ?_⟩) ?_ ?_
  rotate_left
  · intro w'
    go_simp
    with_reducible rfl
  rotate_left
  · simp only [Act.put, List.setIfInBounds_toArray, List.set_cons_zero, List.set_cons_succ, i64_w, i32_w]
    rfl
  refine pure_ (i := 19) (N := some 62) (v := ?_) (a' := ?_) #[true, true, true, true, true, true, true, true, true, true, true, true, true, true, true, true, true, true, true, true, false, false, false, false, false, false, false] rfl rfl (by kernel_rfl) (fun _ _ _ h => h) (Or.inl ⟨by rfl, ?_⟩) ?_ ?_
  rotate_left
  · intro w'
    go_simp
    with_reducible rfl
  rotate_left
  · simp only [Act.put, List.setIfInBounds_toArray, List.set_cons_zero, List.set_cons_succ, i64_w, i32_w]
    rfl
  refine last_ (i := 20) (N := none) #[true, true, true, true, true, true, true, true, true, true, true, true, true, true, true, true, true, true, true, true, true, false, false, false, false, false, false] rfl rfl (by kernel_rfl) (by decide) (fun K hK => ?_)
  have HW9 := Aside0.mk hHeld.2.2.2
  refine skip_ (w1 := ?_) (by rfl) rfl ?_ ?_
  rotate_left
  · go_simp
    rfl
  refine hK.out _ _ ?_
  clear hK K
  refine pure_ (i := 21) (N := some 63) (v := ?_) (a' := ?_) #[true, true, true, true, true, true, true, true, true, true, true, true, true, true, true, true, true, true, true, true, true, true, false, false, false, false, false] rfl rfl (by kernel_rfl) (fun _ _ _ h => h) (Or.inl ⟨by rfl, ?_⟩) ?_ ?_
  rotate_left
  · intro w'
    go_simp
    with_reducible rfl
  rotate_left
  · simp only [Act.put, List.setIfInBounds_toArray, List.set_cons_zero, List.set_cons_succ, i64_w, i32_w]
    rfl
  refine pure_ (i := 22) (N := some 64) (v := ?_) (a' := ?_) #[true, true, true, true, true, true, true, true, true, true, true, true, true, true, true, true, true, true, true, true, true, true, true, false, false, false, false] rfl rfl (by kernel_rfl) (fun _ _ _ h => h) (Or.inl ⟨by rfl, ?_⟩) ?_ ?_
  rotate_left
  · intro w'
    go_simp
    with_reducible rfl
  rotate_left
  · simp only [Act.put, List.setIfInBounds_toArray, List.set_cons_zero, List.set_cons_succ, i64_w, i32_w]
    rfl
  refine last_ (i := 23) (N := none) #[true, true, true, true, true, true, true, true, true, true, true, true, true, true, true, true, true, true, true, true, true, true, true, true, false, false, false] rfl rfl (by kernel_rfl) (by decide) (fun K hK => ?_)
  refine skip_ (w1 := ?_) (by rfl) rfl ?_ ?_
  rotate_left
  · go_simp
    rfl
  refine hK.out _ _ ?_
  clear hK K
  refine pure_ (i := 24) (N := some 65) (v := ?_) (a' := ?_) #[true, true, true, true, true, true, true, true, true, true, true, true, true, true, true, true, true, true, true, true, true, true, true, true, true, false, false] rfl rfl (by kernel_rfl) (fun _ _ _ h => h) (Or.inl ⟨by rfl, ?_⟩) ?_ ?_
  rotate_left
  · intro w'
    go_simp
    with_reducible rfl
  rotate_left
  · simp only [Act.put, List.setIfInBounds_toArray, List.set_cons_zero, List.set_cons_succ, i64_w, i32_w]
    rfl
  refine pure_ (i := 25) (N := some 66) (v := ?_) (a' := ?_) #[true, true, true, true, true, true, true, true, true, true, true, true, true, true, true, true, true, true, true, true, true, true, true, true, true, true, false] rfl rfl (by kernel_rfl) (fun _ _ _ h => h) (Or.inl ⟨by rfl, ?_⟩) ?_ ?_
  rotate_left
  · intro w'
    go_simp
    with_reducible rfl
  rotate_left
  · simp only [Act.put, List.setIfInBounds_toArray, List.set_cons_zero, List.set_cons_succ, i64_w, i32_w]
    rfl
  refine last_ (i := 26) (N := none) #[true, true, true, true, true, true, true, true, true, true, true, true, true, true, true, true, true, true, true, true, true, true, true, true, true, true, true] rfl rfl (by kernel_rfl) (by decide) (fun K hK => ?_)
  refine skip_ (w1 := ?_) (by rfl) rfl ?_ ?_
  rotate_left
  · go_simp
    rfl
  refine hK.out _ _ ?_
  clear hK K
  refine done_ (by kernel_rfl) ?_
  have HQ : DF w g c 100 64 ((((W3.setCell ⟨g, 2, none⟩ (.slice none 0 0)).setCell ⟨g, 3, none⟩ (.slice none 0 0)).setCell ⟨g, 6, none⟩ (.slice none 0 0)).drew) := (((HD.out.nil_ 2 (by decide)).nil_ 3 (by decide)).nil_ 6 (by decide)).drewN 1
  generalize (((W3.setCell ⟨g, 2, none⟩ (.slice none 0 0)).setCell ⟨g, 3, none⟩ (.slice none 0 0)).setCell ⟨g, 6, none⟩ (.slice none 0 0)).drew = W4 at HQ ⊢
  clear HD HW9 cz2 cz3 cz6 fz2 fz3 fz6 cb5
  have HD := Aside0.mk HQ
  have hp := HQ.pod
  have hz := HQ.res
  clear HQ
  have p0 := (blk_cell hp 0).trans rfl
  have p1 := (blk_cell hp 1).trans rfl
  have p2 := (blk_cell hp 2).trans rfl
  have p3 := (blk_cell hp 3).trans rfl
  have p4 := (blk_cell hp 4).trans rfl
  have p5 := (blk_cell hp 5).trans rfl
  have z0 := (blk_cell hz 0).trans rfl
  have z1 := (blk_cell hz 1).trans rfl
  have z2 := (blk_cell hz 2).trans rfl
  have z3 := (blk_cell hz 3).trans rfl
  have z4 := (blk_cell hz 4).trans rfl
  have z5 := (blk_cell hz 5).trans rfl
  have y0 := blk_frozen hz 0
  have y1 := blk_frozen hz 1
  have y2 := blk_frozen hz 2
  have y3 := blk_frozen hz 3
  have y4 := blk_frozen hz 4
  have y5 := blk_frozen hz 5
  clear hp hz
  go_wp2
  rw [rounds_succ]
  go_wp2
  have HQ := Aside0.mk (put6_blk0 HD.out.res (.string ⟨#[119, 101, 98]⟩) (.string ⟨#[100, 101, 102, 97, 117, 108, 116]⟩) (.int .i64 0) (.int .i64 30) (.bool false) (.slice (some ⟨g, 0, none⟩) 1 c))
  have q0 := (blk_cell HQ.out 0).trans rfl
  have q1 := (blk_cell HQ.out 1).trans rfl
  have q2 := (blk_cell HQ.out 2).trans rfl
  have q3 := (blk_cell HQ.out 3).trans rfl
  have q4 := (blk_cell HQ.out 4).trans rfl
  have q5 := (blk_cell HQ.out 5).trans rfl
  unfold put6 at q0 q1 q2 q3 q4 q5
  have HO := Aside0.mk ((put6_keep W4 (w.heap.size + 1) 0 (.string ⟨#[119, 101, 98]⟩) (.string ⟨#[100, 101, 102, 97, 117, 108, 116]⟩) (.int .i64 0) (.int .i64 30) (.bool false) (.slice (some ⟨g, 0, none⟩) 1 c)).own HD.out.row (by have := HD.out.far; simp [Value.ownBlock]; omega) (by simp [Value.ownBlock]))
  have HL := Aside0.mk (put6_below HD.out.below (show w.heap.size ≤ w.heap.size + 1 by omega) 0 (.string ⟨#[119, 101, 98]⟩) (.string ⟨#[100, 101, 102, 97, 117, 108, 116]⟩) (.int .i64 0) (.int .i64 30) (.bool false) (.slice (some ⟨g, 0, none⟩) 1 c))
  refine bodyPost_ret (v := .agg #[.string ⟨#[119, 101, 98]⟩, .string ⟨#[100, 101, 102, 97, 117, 108, 116]⟩, .int .i64 0, .int .i64 30, .bool false, .slice (some ⟨g, 0, none⟩) 1 c]) (by simp [results, Tryz.results113, go_sem, q0, q1, q2, q3, q4, q5]) rfl ?_
  exact ⟨g, c, rfl, HO.out, HL.out⟩
end Go.Proofs.YtlmeelmjodjfpaaGreatDoor.PB
end
section
namespace Go.Proofs.YtlmeelmjodjfpaaGreatDoor.PB
open Go.RowKit Go.Maps Go.Proofs.YtlmeelmjodjfpaaGreatDoorW.PrintWords Go.Proofs.YtlmeelmjodjfpaaGreatDoorW.PrintLast Go.Proofs.YtlmeelmjodjfpaaGreatDoorW.PrintMore
open Fr (tx tx_list tx_size tx_app tx_of)
set_option linter.unusedVariables false
set_option linter.unusedSimpArgs false
set_option maxHeartbeats 1000000
set_option maxRecDepth 100000
theorem R_oneO {α : Type} {d : Kd α} {e base g c : Nat} {ok okp : Nat → Prop} {w : World} {x : α} {cs : List Value} (hr : w.ownsRow base e d.sz (.slice (some ⟨g, 0, none⟩) 1 c) 1 cs) (hM : d.M w base okp x cs) (hokg : ok g) (hokp : ∀ k, okp k → ok k ∧ k ≠ g) : d.R e w base ok (.slice (some ⟨g, 0, none⟩) 1 c) [x] := by
  have hl := d.K_len (d.K_of_M hM)
  refine ⟨fun k hk => by simp [Value.ownBlock] at hk; subst hk; exact hokg, cs, hr, by simp [hl], ?_⟩
  intro j p hj
  obtain rfl : j = 0 := by
    rcases Nat.eq_zero_or_pos j with h | h
    · exact h
    · rw [List.getElem?_eq_none (by simp; omega)] at hj; cases hj
  simp only [List.getElem?_cons_zero, Option.some.injEq] at hj
  subst hj
  simp only [Nat.zero_mul, List.drop_zero]
  rw [List.take_of_length_le (by omega)]
  exact d.M_mono (fun k hk => ⟨(hokp k hk).1, by simp [Value.ownBlock]; exact (hokp k hk).2⟩) hM
/-- The pod's one container. -/
def exS (a b : Int) : S104 := ⟨⟨#[99]⟩, ⟨#[110, 103, 105, 110, 120]⟩, [], [], a, b, []⟩
theorem ex_C {w : World} {base g c : Nat} {a b : Int} (hr : w.ownsRow base 104 7 (.slice (some ⟨g, 0, none⟩) 1 c) 1 (exD a b)) : k104.C w (some ⟨g, 0, none⟩) 1 [exS a b] ∧ 1 ≤ c := by
  have hM := k104_mkM w base (fun _ => False) (exS a b) (Kd.R_nil Kd.string 9 w base _) (Kd.R_nil k160 160 w base _) (Kd.R_nil k161 161 w base _)
  obtain ⟨A, c', h1, h2, h3⟩ := Kd.R_reads (R_oneO (d := k104) (ok := fun _ => True) hr hM trivial (fun k h => h.elim))
  cases h1
  exact ⟨h3, h2⟩
theorem exS_small (a b : Int) : ∀ c ∈ [exS a b], SmC c := by
  intro c hc
  simp only [List.mem_singleton] at hc
  subst hc
  exact ⟨by simp [exS]; decide, by simp [exS]; decide, by simp [exS], by simp [exS], by simp [exS]⟩
theorem checkD.calls {w : World} {base g c : Nat} (hT : Tabs w) (hr : w.ownsRow base 104 7 (.slice (some ⟨g, 0, none⟩) 1 c) 1 (exD 100 64)) : Calls Tryz.prog 101 #[.agg #[.string ⟨#[119, 101, 98]⟩, .string ⟨#[100, 101, 102, 97, 117, 108, 116]⟩, .int .i64 0, .int .i64 30, .bool false, .slice (some ⟨g, 0, none⟩) 1 c]] w fun e w' => e = .returned (.int .i64 0) ∧ Below w.heap.size w w' := by
  have := spec_Pod_Check.calls ⟨#[119, 101, 98]⟩ ⟨#[100, 101, 102, 97, 117, 108, 116]⟩ 0 30 false (some ⟨g, 0, none⟩) c [exS 100 64] w hT (ex_C hr).1 (ex_C hr).2 (by decide) (by decide) (exS_small 100 64) (by decide)
  rwa [show podP ⟨#[119, 101, 98]⟩ ⟨#[100, 101, 102, 97, 117, 108, 116]⟩ 0 30 [exS 100 64] = 0 from by decide +kernel] at this
theorem checkE.calls {w : World} {base g c : Nat} (hT : Tabs w) (hr : w.ownsRow base 104 7 (.slice (some ⟨g, 0, none⟩) 1 c) 1 (exD 0 0)) : Calls Tryz.prog 101 #[.agg #[.string ⟨#[119, 101, 98]⟩, .string ⟨#[]⟩, .int .i64 0, .int .i64 0, .bool false, .slice (some ⟨g, 0, none⟩) 1 c]] w fun e w' => e = .returned (.int .i64 13) ∧ Below w.heap.size w w' := by
  have := spec_Pod_Check.calls ⟨#[119, 101, 98]⟩ ⟨#[]⟩ 0 0 false (some ⟨g, 0, none⟩) c [exS 0 0] w hT (ex_C hr).1 (ex_C hr).2 (by decide) (by decide) (exS_small 0 0) (by decide)
  rwa [show podP ⟨#[119, 101, 98]⟩ ⟨#[]⟩ 0 0 [exS 0 0] = 13 from by decide +kernel] at this
theorem blk_own {w : World} {d : Nat} (h : w.heap[d]? = some (.cells exC.toArray 104 (0, 0))) : w.ownsRow d 104 7 (.slice (some ⟨d, 0, none⟩) 1 1) 1 (exD 0 0) :=
  ⟨rfl, .inr ⟨d, 1, exC.toArray, rfl, Nat.le_refl _, h, Nat.le_refl _, by decide, rfl, rfl⟩⟩
structure E14 (w : World) (N g c : Nat) (W : World) : Prop where
  pod : PodB N g c W
  row : W.ownsRow w.heap.size 104 7 (.slice (some ⟨g, 0, none⟩) 1 c) 1 (exD 100 64)
  below : Below w.heap.size w W
  tabs : Tabs W
theorem own_below {W W' : World} {B g c n : Nat} {e k : Nat} {xs : List Value} (h : W.ownsRow B e k (.slice (some ⟨g, 0, none⟩) n c) n xs) (hb : Below W.heap.size W W') : W'.ownsRow B e k (.slice (some ⟨g, 0, none⟩) n c) n xs := by
  have hg := (h.lt g rfl).2
  exact (KeepBut.of_below hb W.heap.size none).own h (by simp [Value.ownBlock]; omega) (by simp [Value.ownBlock])
theorem E14.quiet {w W W' : World} {N g c : Nat} (h : E14 w N g c W) (hb : Below W.heap.size W W') : E14 w N g c W' :=
  ⟨blk_below h.pod hb, own_below h.row hb, below_step h.below hb, h.tabs.below hb⟩
theorem E14.start {w w2 : World} {g c : Nat} (hr : w2.ownsRow w.heap.size 104 7 (.slice (some ⟨g, 0, none⟩) 1 c) 1 (exD 100 64)) (hb : Below w.heap.size w w2) (hT : Tabs w) :
    E14 w w2.heap.size g c (w2.alloc (.cells #[.string ⟨#[119, 101, 98]⟩, .string ⟨#[100, 101, 102, 97, 117, 108, 116]⟩, .int .i64 0, .int .i64 30, .bool false, .slice (some ⟨g, 0, none⟩) 1 c] 92)) :=
  ⟨blk_new w2 _, own_below hr (below_alloc (Below.refl _ _) _), below_alloc hb _, (hT.below hb).below (below_alloc (Below.refl _ _) _)⟩
theorem awake14.calls (w : World) (hT : Tabs w) : Calls Tryz.prog 85 #[] w (TrueP w) := by
  have HT := Aside0.mk hT
  clear hT
  go_enter Tryz.func85, Tryz.ntmps85
  go_wp2_with (go_at_call 112; (with_reducible refine (example_.calls _).mono ?_); rintro e w1 ⟨d, rfl, h1, h2, hb⟩; have H1 := Aside0.mk h1; have HB1 := Aside0.mk hb; clear h1 h2 hb)
  go_wp2_with (go_at_call 113; (with_reducible refine (default_.calls _ H1.out).mono ?_); rintro e w2 ⟨g, c, rfl, hr, hb⟩; have H := Aside0.mk (E14.start (own_mono hr HB1.out.size) (below_step HB1.out hb) HT.out); clear hr hb HB1 H1)
  generalize w2.alloc (.cells #[.string ⟨#[119, 101, 98]⟩, .string ⟨#[100, 101, 102, 97, 117, 108, 116]⟩, .int .i64 0, .int .i64 30, .bool false, .slice (some ⟨g, 0, none⟩) 1 c] 92) = W3 at H ⊢
  generalize w2.heap.size = N at H ⊢
  go_wp2_with (first | (go_at_call 114; go_loud (with_reducible refine (awake06.calls _).mono ?_); rintro e w4 ⟨rfl, hb⟩; replace H := Aside0.mk (H.out.quiet hb); clear hb))
  go_wp2_with (first | (go_at_call 83; go_loud (with_reducible refine (awake13.calls _).mono ?_); rintro e w5 ⟨rfl, hb⟩; replace H := Aside0.mk (H.out.quiet hb); clear hb; have p0 := (blk_cell H.out.pod 0).trans rfl; have p1 := (blk_cell H.out.pod 1).trans rfl; have p2 := (blk_cell H.out.pod 2).trans rfl; have p3 := (blk_cell H.out.pod 3).trans rfl; have p4 := (blk_cell H.out.pod 4).trans rfl; have p5 := (blk_cell H.out.pod 5).trans rfl; have g4 : w5.cell? ⟨g, 4, none⟩ = some (.int .i64 100) := World.ownsRow.cellAt H.out.row 4 (by decide); have g5 : w5.cell? ⟨g, 5, none⟩ = some (.int .i64 64) := World.ownsRow.cellAt H.out.row 5 (by decide)))
  go_wp2_with (first | (go_at_call 101; go_loud (with_reducible refine (checkD.calls H.out.tabs H.out.row).mono ?_); rintro e w6 ⟨rfl, hb⟩; replace H := Aside0.mk (H.out.quiet hb); clear hb; clear p0 p1 p2 p3 p4 p5 g4 g5; have p0 := (blk_cell H.out.pod 0).trans rfl; have p1 := (blk_cell H.out.pod 1).trans rfl; have p2 := (blk_cell H.out.pod 2).trans rfl; have p3 := (blk_cell H.out.pod 3).trans rfl; have p4 := (blk_cell H.out.pod 4).trans rfl; have p5 := (blk_cell H.out.pod 5).trans rfl; have g4 : w6.cell? ⟨g, 4, none⟩ = some (.int .i64 100) := World.ownsRow.cellAt H.out.row 4 (by decide); have g5 : w6.cell? ⟨g, 5, none⟩ = some (.int .i64 64) := World.ownsRow.cellAt H.out.row 5 (by decide)))
  go_wp2_with (go_at_call 112; (with_reducible refine (example_.calls _).mono ?_); rintro e w7 ⟨d, rfl, h1, h2, hb⟩; have H1 := Aside0.mk (blk_own h1); replace H := Aside0.mk (H.out.quiet hb); clear h1 h2 hb p0 p1 p2 p3 p4 p5 g4 g5)
  go_wp2_with (go_at_call 101; (refine (checkE.calls H.out.tabs H1.out).mono ?_); rintro e w8 ⟨rfl, hb⟩; replace H := Aside0.mk (H.out.quiet hb); clear hb H1)
  go_ret
  exact ⟨rfl, H.out.below⟩
end Go.Proofs.YtlmeelmjodjfpaaGreatDoor.PB
end
section
namespace Go.Proofs.YtlmeelmjodjfpaaGreatDoor.PB
open Go.RowKit Go.Maps Go.Proofs.YtlmeelmjodjfpaaGreatDoorW.PrintWords Go.Proofs.YtlmeelmjodjfpaaGreatDoorW.PrintLast Go.Proofs.YtlmeelmjodjfpaaGreatDoorW.PrintMore
open Fr (tx tx_list tx_size tx_app tx_of frameOf)
set_option linter.unusedVariables false
set_option linter.unusedSimpArgs false
set_option maxHeartbeats 1000000
set_option maxRecDepth 100000
/-- What Close comes to. -/
def closeP (ver : Nat) (p : List UInt8) : List UInt8 × Int := if 4194304 < p.length then ([], 2) else (frameOf ver p, 0)
theorem close.calls (ver : Nat) (hv : ver < 256) (p : List UInt8) (w : World) : Calls Tryz.prog 37 #[.int .u8 (ver : Int), .string (tx p)] w fun e w' => e = .returned (.tuple #[.string (tx (closeP ver p).1), .int .i64 (closeP ver p).2]) ∧ Below w.heap.size w w' := by
  by_cases h : 4194304 < p.length
  · have h1 : closeP ver p = ([], 2) := if_pos h
    rw [h1]
    exact frame_Close.calls 0 ver (tx p) (tx []) 2 w (Fr.close_long 0 ver (tx p) (by rw [tx_size]; exact h))
  · have h1 : closeP ver p = (frameOf ver p, 0) := if_neg h
    rw [h1]
    have h2 := Fr.close_tells (10 * (tx p).size + 100) ver hv (tx p) (by rw [tx_size]; omega) (Nat.le_refl _)
    exact frame_Close.calls _ ver (tx p) _ 0 w h2
/-- What closed comes to. -/
def closedP (ver : Nat) (b : List UInt8) (e : Int) : List UInt8 × Int := if e ≠ 0 then ([], e) else closeP ver b
theorem closed.calls (ver : Nat) (hv : ver < 256) (b : List UInt8) (e : Int) (w : World) : Calls Tryz.prog 36 #[.int .u8 (ver : Int), .string (tx b), .int .i64 e] w fun x w' => x = .returned (.tuple #[.string (tx (closedP ver b e).1), .int .i64 (closedP ver b e).2]) ∧ Below w.heap.size w w' := by
  by_cases h : e = 0
  · subst h
    have HF := Aside0.mk (show closedP ver b 0 = closeP ver b from if_neg (by simp))
    rw [HF.out]
    have cC := fun W => close.calls ver hv b W
    generalize closeP ver b = q at cC ⊢
    clear hv
    go_enter Tryz.func36, Tryz.ntmps36
    go_wp2_with (go_at_call 37; refine (cC _).mono ?_; rintro x w2 ⟨rfl, hb⟩)
    go_ret2
    exact ⟨rfl, hb⟩
  · have HF := Aside0.mk (show closedP ver b e = ([], e) from if_pos h)
    have hz1 : (e != 0) = true := bne_iff_ne.2 h
    rw [HF.out]
    clear h hv
    go_enter Tryz.func36, Tryz.ntmps36
    go_wp2_with fail
    go_ret2
    exact ⟨rfl, Below.refl _ _⟩
def threeP (sq : Nat) (l : List S94) : List UInt8 × Int := closedP 3 (encB sq l) (stateP l)
theorem ckpt_Three.calls (sq : Nat) (A1 : Option Addr) (c1 : Nat) (l : List S94) (w : World) (hT : Tabs w)
    (h1 : k94.C w A1 l.length l) (hc1 : l.length ≤ c1) (s1 : ∀ p ∈ l, SmP p) (hl : l.length ≤ 140737488355328) :
    Calls Tryz.prog 12 #[.agg #[.int .u64 sq, .slice A1 l.length c1]] w fun x w' => x = .returned (.tuple #[.string (tx (threeP sq l).1), .int .i64 (threeP sq l).2]) ∧ Below w.heap.size w w' := by
  have hba := below_alloc (Below.refl w.heap.size w) (.cells #[.int .u64 sq, .slice A1 l.length c1] 28)
  have cE := ckthree_Encode.calls sq A1 c1 l (w.alloc (.cells #[.int .u64 sq, .slice A1 l.length c1] 28)) (hT.below hba) (Kd.C_below h1 hba) hc1 s1 hl
  have cC : ∀ W, Calls Tryz.prog 36 #[.int .u8 3, .string (tx (encB sq l)), .int .i64 (stateP l)] W _ := fun W => closed.calls 3 (by decide) (encB sq l) (stateP l) W
  have HF := Aside0.mk (show threeP sq l = closedP 3 (encB sq l) (stateP l) from rfl)
  rw [HF.out]
  generalize closedP 3 (encB sq l) (stateP l) = q at cC ⊢
  generalize encB sq l = eb at cE cC
  generalize stateP l = st at cE cC
  have HB := Aside0.mk hba
  clear hT h1 hc1 s1 hl hba HF
  go_enter Tryz.func12, Tryz.ntmps12
  go_wp2_with (first | (go_at_call 35; refine cE.mono ?_; rintro x w2 ⟨rfl, hb⟩; have HB2 := Aside0.mk (below_step HB.out hb); clear hb) | (go_at_call 36; refine (cC _).mono ?_; rintro x w3 ⟨rfl, hb⟩; have HB3 := Aside0.mk (below_step HB2.out hb); clear hb))
  go_ret2
  exact ⟨rfl, HB3.out⟩
end Go.Proofs.YtlmeelmjodjfpaaGreatDoor.PB
end
section
namespace Go.Proofs.YtlmeelmjodjfpaaGreatDoor.PB
open Go.RowKit Go.Maps Go.Proofs.YtlmeelmjodjfpaaGreatDoorW.PrintWords Go.Proofs.YtlmeelmjodjfpaaGreatDoorW.PrintLast Go.Proofs.YtlmeelmjodjfpaaGreatDoorW.PrintMore
open Fr (tx tx_list tx_size tx_app tx_of)
set_option linter.unusedVariables false
set_option linter.unusedSimpArgs false
set_option maxHeartbeats 1000000
set_option maxRecDepth 100000
theorem enc0.calls (w : World) (hT : Tabs w) : Calls Tryz.prog 35 #[.agg #[.int .u64 1, .slice none 0 0]] w fun e w' => e = .returned (.tuple #[.string ⟨#[0, 0, 0, 0, 0, 0, 0, 1, 0, 0]⟩, .int .i64 0]) ∧ Below w.heap.size w w' := by
  have := ckthree_Encode.calls 1 none 0 [] w hT (Kd.C_nil k94 w) (Nat.le_refl _) (by simp) (by decide)
  rwa [show tx (encB 1 []) = ⟨#[0, 0, 0, 0, 0, 0, 0, 1, 0, 0]⟩ from by decide +kernel, show stateP [] = 0 from by decide +kernel] at this
theorem three0.calls (w : World) (hT : Tabs w) : Calls Tryz.prog 12 #[.agg #[.int .u64 1, .slice none 0 0]] w fun e w' => (∃ s : ByteArray, e = .returned (.tuple #[.string s, .int .i64 0]) ∧ s.size = 23) ∧ Below w.heap.size w w' := by
  have := ckpt_Three.calls 1 none 0 [] w hT (Kd.C_nil k94 w) (Nat.le_refl _) (by simp) (by decide)
  refine this.mono ?_
  rintro e w' ⟨rfl, hb⟩
  exact ⟨⟨tx (threeP 1 []).1, by rw [show (threeP 1 []).2 = 0 from by decide +kernel], by rw [tx_size]; decide +kernel⟩, hb⟩
theorem awake19.calls (w : World) (hT : Tabs w) : Calls Tryz.prog 42 #[] w (TrueP w) := by
  have HT := Aside0.mk hT
  clear hT
  go_enter Tryz.func42, Tryz.ntmps42
  go_wp2_with (go_at_call 35; go_loud (with_reducible refine (enc0.calls _ HT.out).mono ?_); rintro e w1 ⟨rfl, hb⟩; have HB := Aside0.mk hb; clear hb)
  go_wp2_with (go_at_call 85; go_loud (with_reducible refine (awake14.calls _ (HT.out.below HB.out)).mono ?_); rintro e w2 ⟨rfl, hb⟩; replace HB := Aside0.mk (below_step HB.out hb); clear hb)
  go_wp2_with (go_at_call 40; go_loud (with_reducible refine (awake17.calls _).mono ?_); rintro e w3 ⟨rfl, hb⟩; replace HB := Aside0.mk (below_step HB.out hb); clear hb)
  go_ret
  exact ⟨rfl, HB.out⟩
theorem c13 (w : World) : Calls Tryz.prog 13 #[] w fun e w' => e = .returned (.bool true) ∧ Below w.heap.size w w' := bosunlaw03_Awake.calls 200 true w (Fr.awake3 200 (Nat.le_refl _))
/-- The pod that the example turns into version 3. -/
def exU : S100 := ⟨⟨#[97]⟩, ⟨#[119, 101, 98]⟩, ⟨#[110, 103, 105, 110, 120]⟩, 0⟩
def exV : S94 := upP (up1 exU)
theorem exU_C (w : World) : k100.C (w.alloc (.cells #[.string ⟨#[97]⟩, .string ⟨#[119, 101, 98]⟩, .string ⟨#[110, 103, 105, 110, 120]⟩, .int .u8 0] 100)) (some ⟨w.heap.size, 0, none⟩) 1 [exU] := by
  obtain ⟨A, c', h1, h2, h3⟩ := Kd.R_reads (R_one (d := k100) (e := 100) (base := 0) (ok := fun _ => True) (okp := fun _ => False) (blk_new w (.cells #[.string ⟨#[97]⟩, .string ⟨#[119, 101, 98]⟩, .string ⟨#[110, 103, 105, 110, 120]⟩, .int .u8 0] 100)) (k100_mkM _ 0 (fun _ => False) exU) (Nat.zero_le _) trivial (fun k h => h.elim))
  cases h1
  exact h3
/-- What the example reads of the pod in version 3. -/
structure UC (g g6 c6 : Nat) (q2 q3 q6 : Value) (w : World) : Prop where
  a6 : w.cell? ⟨g, 6, none⟩ = some (.slice (some ⟨g6, 0, none⟩) 1 c6)
  b0 : w.cell? ⟨g6, 0, none⟩ = some (.string ⟨#[109, 97, 105, 110]⟩)
  b1 : w.cell? ⟨g6, 1, none⟩ = some (.string ⟨#[110, 103, 105, 110, 120]⟩)
  b2 : w.cell? ⟨g6, 2, none⟩ = some q2
  b3 : w.cell? ⟨g6, 3, none⟩ = some q3
  b4 : w.cell? ⟨g6, 4, none⟩ = some (.int .i64 100)
  b5 : w.cell? ⟨g6, 5, none⟩ = some (.int .i64 64)
  b6 : w.cell? ⟨g6, 6, none⟩ = some q6
theorem R_nil0 {α : Type} {d : Kd α} {e base : Nat} {ok : Nat → Prop} {w : World} {v : Value} (h : d.R e w base ok v []) : ∃ A c, v = .slice A 0 c := by
  obtain ⟨A, c, h1, _⟩ := Kd.R_reads h
  exact ⟨A, c, h1⟩
theorem uc_of {w : World} {B : Nat} {ok : Nat → Prop} {v : Value} (h : k94.R 94 w B ok v [exV]) : ∃ g c g6 c6 A2 k2 A3 k3 A6 k6, v = .slice (some ⟨g, 0, none⟩) 1 c ∧ UC g g6 c6 (.slice A2 0 k2) (.slice A3 0 k3) (.slice A6 0 k6) w := by
  obtain ⟨ad, c, rfl⟩ := Kd.R_slice1 h (by decide)
  obtain ⟨g, rfl⟩ := Kd.R_head h
  obtain ⟨cs, hl, hM, hc⟩ := Kd.R_get h z94 0 (by decide) (by decide)
  obtain ⟨v6, rfl, h6⟩ := k94_openM hM
  obtain ⟨ad6, c6, rfl⟩ := Kd.R_slice1 h6 (by decide)
  obtain ⟨g6, rfl⟩ := Kd.R_head h6
  obtain ⟨cs6, hl6, hM6, hc6⟩ := Kd.R_get h6 z104 0 (by decide) (by decide)
  obtain ⟨u2, u3, u6, rfl, r2, r3, r6⟩ := k104_openM hM6
  obtain ⟨A2, k2, rfl⟩ := R_nil0 r2
  obtain ⟨A3, k3, rfl⟩ := R_nil0 r3
  obtain ⟨A6, k6, rfl⟩ := R_nil0 r6
  exact ⟨g, c, g6, c6, A2, k2, A3, k3, A6, k6, rfl, hc 6 _ rfl, hc6 0 _ rfl, hc6 1 _ rfl, hc6 2 _ rfl, hc6 3 _ rfl, hc6 4 _ rfl, hc6 5 _ rfl, hc6 6 _ rfl⟩
theorem UC.below {g g6 c6 : Nat} {q2 q3 q6 : Value} {W W' : World} (h : UC g g6 c6 q2 q3 q6 W) (hb : Below W.heap.size W W') : UC g g6 c6 q2 q3 q6 W' :=
  ⟨cell_below_ hb h.a6, cell_below_ hb h.b0, cell_below_ hb h.b1, cell_below_ hb h.b2, cell_below_ hb h.b3, cell_below_ hb h.b4, cell_below_ hb h.b5, cell_below_ hb h.b6⟩
theorem both0.calls (w : World) : Calls Tryz.prog 20 #[.agg #[.int .u32 0, .slice (some ⟨w.heap.size, 0, none⟩) 1 1]] (w.alloc (.cells #[.string ⟨#[97]⟩, .string ⟨#[119, 101, 98]⟩, .string ⟨#[110, 103, 105, 110, 120]⟩, .int .u8 0] 100))
    fun e w' => ∃ g c g6 c6 A2 k2 A3 k3 A6 k6, e = .returned (.agg #[.int .u64 0, .slice (some ⟨g, 0, none⟩) 1 c]) ∧ UC g g6 c6 (.slice A2 0 k2) (.slice A3 0 k3) (.slice A6 0 k6) w' ∧ Below w.heap.size w w' := by
  refine (upgrade_Both.calls 0 (some ⟨w.heap.size, 0, none⟩) 1 [exU] _ (exU_C w) (by decide) (by decide) (by simp [exU])).mono ?_
  rintro e w' ⟨v, rfl, hR, hb⟩
  obtain ⟨g, c, g6, c6, A2, k2, A3, k3, A6, k6, rfl, h⟩ := uc_of hR
  exact ⟨g, c, g6, c6, A2, k2, A3, k3, A6, k6, rfl, h, below_step (below_alloc (Below.refl w.heap.size w) _) hb⟩
theorem awake20.calls (w : World) (hT : Tabs w) : Calls Tryz.prog 14 #[] w (TrueP w) := by
  have HT := Aside0.mk hT
  clear hT
  go_enter Tryz.func14, Tryz.ntmps14
  go_upto_region 2 with (go_at_call 20; go_loud (with_reducible refine (both0.calls w).mono ?_); rintro e w1 ⟨g, c, g6, c6, A2, k2, A3, k3, A6, k6, rfl, hU, hb⟩; have HU := Aside0.mk hU; have HB := Aside0.mk hb; clear hU hb)
  replace HU := Aside0.mk (HU.out.below (below_alloc (Below.refl _ _) (.cells #[.int .u64 0, .slice (some ⟨g, 0, none⟩) 1 c] 28)))
  replace HB := Aside0.mk (below_alloc HB.out (.cells #[.int .u64 0, .slice (some ⟨g, 0, none⟩) 1 c] 28))
  have HX := Aside0.mk (blk_new w1 (.cells #[.int .u64 0, .slice (some ⟨g, 0, none⟩) 1 c] 28))
  generalize w1.alloc (.cells #[.int .u64 0, .slice (some ⟨g, 0, none⟩) 1 c] 28) = W2 at HU HB HX ⊢
  generalize w1.heap.size = N at HX ⊢
  have a6 := HU.out.a6
  have b0 := HU.out.b0
  have b1 := HU.out.b1
  have b2 := HU.out.b2
  have b3 := HU.out.b3
  have b4 := HU.out.b4
  have b5 := HU.out.b5
  have b6 := HU.out.b6
  have x0 := (blk_cell HX.out 0).trans rfl
  have x1 := (blk_cell HX.out 1).trans rfl
  have HY := Aside0.mk (And.intro (blk_new W2 (.cells #[.string ⟨#[109, 97, 105, 110]⟩, .string ⟨#[110, 103, 105, 110, 120]⟩, .slice A2 0 k2, .slice A3 0 k3, .int .i64 100, .int .i64 64, .slice A6 0 k6] 104)) (below_alloc HB.out (.cells #[.string ⟨#[109, 97, 105, 110]⟩, .string ⟨#[110, 103, 105, 110, 120]⟩, .slice A2 0 k2, .slice A3 0 k3, .int .i64 100, .int .i64 64, .slice A6 0 k6] 104)))
  clear HB HU HX
  go_upto_region 5 with (fail)
  clear a6 b0 b1 b2 b3 b4 b5 b6 x0 x1
  generalize W2.alloc (.cells #[.string ⟨#[109, 97, 105, 110]⟩, .string ⟨#[110, 103, 105, 110, 120]⟩, .slice A2 0 k2, .slice A3 0 k3, .int .i64 100, .int .i64 64, .slice A6 0 k6] 104) = W3 at HY ⊢
  generalize W2.heap.size = M at HY ⊢
  go_wp2_with (go_at_call 40; (with_reducible refine (awake17.calls _).mono ?_); rintro e w3 ⟨rfl, hb⟩; replace HY := Aside0.mk (And.intro (blk_below HY.out.1 hb) (below_step HY.out.2 hb)); clear hb)
  go_wp2_with (go_at_call 41; (with_reducible refine (awake18.calls _).mono ?_); rintro e w4 ⟨rfl, hb⟩; replace HY := Aside0.mk (And.intro (blk_below HY.out.1 hb) (below_step HY.out.2 hb)); clear hb)
  go_wp2_with (go_at_call 42; (with_reducible refine (awake19.calls _ (HT.out.below HY.out.2)).mono ?_); rintro e w5 ⟨rfl, hb⟩; replace HY := Aside0.mk (And.intro (blk_below HY.out.1 hb) (below_step HY.out.2 hb)); clear hb; have y0 := (blk_cell HY.out.1 0).trans rfl; have y1 := (blk_cell HY.out.1 1).trans rfl; have y4 := (blk_cell HY.out.1 4).trans rfl)
  go_ret
  exact ⟨rfl, HY.out.2⟩
theorem awake21.calls (w : World) (hT : Tabs w) : Calls Tryz.prog 5 #[] w (TrueP w) := by
  have HT := Aside0.mk hT
  clear hT
  go_enter Tryz.func5, Tryz.ntmps5
  go_wp2_with (go_at_call 12; (with_reducible refine (three0.calls _ HT.out).mono ?_); rintro e w1 ⟨⟨s, rfl, hs⟩, hb⟩; have HB := Aside0.mk hb; have hs := congrArg (Nat.cast : Nat → Int) hs; clear hb)
  go_wp2_with (go_at_call 13; (with_reducible refine (c13 _).mono ?_); rintro e w2 ⟨rfl, hb⟩; replace HB := Aside0.mk (below_step HB.out hb); clear hb)
  go_wp2_with (go_at_call 14; (with_reducible refine (awake20.calls _ (HT.out.below HB.out)).mono ?_); rintro e w3 ⟨rfl, hb⟩; replace HB := Aside0.mk (below_step HB.out hb); clear hb)
  go_ret
  exact ⟨rfl, HB.out⟩
end Go.Proofs.YtlmeelmjodjfpaaGreatDoor.PB
end
