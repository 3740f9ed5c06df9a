/- CkptBursts, part 13 of 24 of its proof: for every input that meets the row's condition (laid, tied) the call returns true and each argument reads behind it as before. -/
import Derived.Test.YtlmeelmjodjfpaaGreatDoorG11
import Derived.Test.YtlmeelmjodjfpaaGreatDoorG05
import Derived.Test.YtlmeelmjodjfpaaGreatDoorG08
import Derived.Test.YtlmeelmjodjfpaaGreatDoorG04
import Derived.RangeFuncOwn
import Derived.Lib.Hide
section
namespace Go.Proofs.YtlmeelmjodjfpaaGreatDoor.PB
open Go.RowKit Go.Maps Go.Proofs.YtlmeelmjodjfpaaGreatDoorW.PrintWords Go.Proofs.YtlmeelmjodjfpaaGreatDoorW.PrintLast Go.Proofs.YtlmeelmjodjfpaaGreatDoorW.PrintMore
set_option linter.unusedVariables false
set_option linter.unusedSimpArgs false
def strLe (a b : ByteArray) : Bool := Op.bytesLess a.toList b.toList || a.toList == b.toList
def podOf (p : S94) : Int := podP p.f1.f0 p.f1.f1 p.f1.f2 p.f1.f3 p.f1.f5
def fileLe (prev : Option ByteArray) (p : S94) : Bool := match prev with | none => false | some q => strLe p.f0 q
def podE (prev : Option ByteArray) (p : S94) : Int := if fileP p.f0 then (if fileLe prev p then 6 else podOf p) else 13
def podsP : Option ByteArray → List S94 → Int
  | _, [] => 0
  | prev, p :: r => if podE prev p = 0 then podsP (some p.f0) r else podE prev p
def stateP (l : List S94) : Int := if 1024 < l.length then 18 else podsP none l
def SmP (p : S94) : Prop := p.f0.size ≤ 140737488355328 ∧ p.f1.f0.size ≤ 140737488355328 ∧ p.f1.f1.size ≤ 140737488355328 ∧ (∀ c ∈ p.f1.f5, SmC c) ∧ p.f1.f5.length ≤ 140737488355328
theorem run_leS (a b : ByteArray) (W : World) : (binOp .leq 9 (.string a) (.string b)).run Tryz.prog W = .ok (.bool (Op.bytesLess a.toList b.toList || a.toList == b.toList)) W := by
  simp [binOp, Op.stringOp]
set_option maxRecDepth 100000
set_option maxHeartbeats 1000000
theorem ckthree_Check.calls (sq : Int) (A1 : Option Addr) (c1 : Nat) (l : List S94) (w : World) (hT : Tabs w)
    (h1 : k94.C w A1 l.length l) (hc1 : l.length ≤ c1) (s1 : ∀ p ∈ l, SmP p) (hl : l.length ≤ 140737488355328) :
    Calls Tryz.prog 63 #[.agg #[.int .u64 sq, .slice A1 l.length c1]] w fun e w' => e = .returned (.int .i64 (stateP l)) ∧ Below w.heap.size w w' := by
  have H1 := Aside0.mk h1
  have HT := Aside0.mk hT
  have S1 := Aside0.mk s1
  clear h1 hT s1
  by_cases hbig : 1024 < l.length
  · have hb2 : (1024 : Int) < (l.length : Int) := by omega
    have HF := Aside0.mk (show stateP l = 18 from by unfold stateP; rw [if_pos hbig])
    clear H1 HT S1
    go_enter Tryz.func63, Tryz.ntmps63
    go_wp2_with fail
    go_ret
    exact ⟨by rw [HF.out]; rfl, by repeat (first | exact Below.refl _ _ | apply below_alloc)⟩
  · have hb2 : ¬ (1024 : Int) < (l.length : Int) := by omega
    have HF := Aside0.mk (show stateP l = podsP none l from by unfold stateP; rw [if_neg hbig])
    clear hbig
    go_enter Tryz.func63, Tryz.ntmps63
    go_wp2_with fail
    have hb0 := (Below.refl w.heap.size w).alloc (Nat.le_refl _) (.cells #[.int .u64 sq, .slice A1 l.length c1] 28)
    have hS := (newCell w #[.int .u64 sq, .slice A1 l.length c1] 28 1 (.slice A1 l.length c1) rfl).1
    have hN : w.heap.size < (w.alloc (.cells #[.int .u64 sq, .slice A1 l.length c1] 28)).heap.size := by simp
    generalize w.alloc (.cells #[.int .u64 sq, .slice A1 l.length c1] 28) = W0 at hb0 hS hN ⊢
    have HX0 := Aside0.mk (And.intro hS (And.intro hN hb0))
    clear hS hN hb0
    go_loopw [13] (fun v13 wr => ∃ (j : Nat) (prev : Option ByteArray), v13 = .int .i64 (j : Int) ∧ j ≤ l.length ∧ Aside0 (podsP prev (l.drop j) = podsP none l) ∧ Aside0 ((j = 0 ∧ prev = none) ∨ (∃ i, j = i + 1 ∧ prev = some (rd_T94 l ((i : Nat) : Int)).f0)) ∧ Aside0 (wr.cell? ⟨w.heap.size, 1, none⟩ = some (.slice A1 l.length c1) ∧ w.heap.size < wr.heap.size ∧ Below w.heap.size w wr)) (fun v13 _ => l.length - (intOf v13).toNat)
    case atStart => exact ⟨0, none, rfl, Nat.zero_le _, Aside0.mk rfl, Aside0.mk (.inl ⟨rfl, rfl⟩), HX0⟩
    case round =>
      clear HX0
      obtain ⟨j, prev, rfl, hj, HE3, HPV, HX⟩ := hrel
      by_cases hlt : j < l.length
      · have hlt2 : (j : Int) < (l.length : Int) := by omega
        have hj0 : (0 : Int) ≤ (j : Int) := by omega
        obtain ⟨ad, A6, c6, ea, k0, k1, k2, k3, k4, k5, k6, g6, q6⟩ := at_T94 H1.out (j : Int) hj0 hlt2
        subst ea
        rw [Int.toNat_natCast] at k0 k1 k2 k3 k4 k5 k6
        replace k0 := cell_moved (B := 0) HX.out.2.2 k0
        replace k1 := cell_moved (B := 0) HX.out.2.2 k1
        replace k2 := cell_moved (B := 0) HX.out.2.2 k2
        replace k3 := cell_moved (B := 0) HX.out.2.2 k3
        replace k4 := cell_moved (B := 0) HX.out.2.2 k4
        replace k5 := cell_moved (B := 0) HX.out.2.2 k5
        replace k6 := cell_moved (B := 0) HX.out.2.2 k6
        have hrd : rd_T94 l (j : Int) = l[j] := by simp [rd_T94, List.getD, List.getElem?_eq_getElem hlt]
        have hok : SmP (rd_T94 l (j : Int)) := by rw [hrd]; exact S1.out _ (List.getElem_mem hlt)
        have hE4 : podsP prev (l.drop j) = if podE prev (rd_T94 l (j : Int)) = 0 then podsP (some (rd_T94 l (j : Int)).f0) (l.drop (j + 1)) else podE prev (rd_T94 l (j : Int)) := by
          rw [List.drop_eq_getElem_cons hlt, ← hrd]; rfl
        have HNX := Aside0.mk (show ((j + 1 = 0 ∧ (some (rd_T94 l (j : Int)).f0) = none) ∨ (∃ i, j + 1 = i + 1 ∧ (some (rd_T94 l (j : Int)).f0) = some (rd_T94 l ((i : Nat) : Int)).f0)) from .inr ⟨j, rfl, rfl⟩)
        clear hrd
        obtain ⟨p, hp⟩ : ∃ p, p = rd_T94 l (j : Int) := ⟨_, rfl⟩
        rw [← hp] at k0 k1 k2 k3 k4 k5 k6 g6 q6 hok hE4 HNX
        clear hp
        replace HE3 := Aside0.mk (hE4.symm.trans HE3.out)
        have HG := Aside0.mk (And.intro g6 q6)
        have HOK := Aside0.mk hok
        clear hE4 g6 q6 hok
        have cF := fun W => cFile p.f0 W HOK.out.1
        have hX0 := (newCell wr #[.string p.f0, .string p.f1.f0, .string p.f1.f1, .int .i64 p.f1.f2, .int .i64 p.f1.f3, .bool p.f1.f4, .slice A6 p.f1.f5.length c6] 94 0 (.string p.f0) rfl).1
        have hX1 := (newCell wr #[.string p.f0, .string p.f1.f0, .string p.f1.f1, .int .i64 p.f1.f2, .int .i64 p.f1.f3, .bool p.f1.f4, .slice A6 p.f1.f5.length c6] 94 1 (.string p.f1.f0) rfl).1
        have hX2 := (newCell wr #[.string p.f0, .string p.f1.f0, .string p.f1.f1, .int .i64 p.f1.f2, .int .i64 p.f1.f3, .bool p.f1.f4, .slice A6 p.f1.f5.length c6] 94 2 (.string p.f1.f1) rfl).1
        have hX3 := (newCell wr #[.string p.f0, .string p.f1.f0, .string p.f1.f1, .int .i64 p.f1.f2, .int .i64 p.f1.f3, .bool p.f1.f4, .slice A6 p.f1.f5.length c6] 94 3 (.int .i64 p.f1.f2) rfl).1
        have hX4 := (newCell wr #[.string p.f0, .string p.f1.f0, .string p.f1.f1, .int .i64 p.f1.f2, .int .i64 p.f1.f3, .bool p.f1.f4, .slice A6 p.f1.f5.length c6] 94 4 (.int .i64 p.f1.f3) rfl).1
        have hX5 := (newCell wr #[.string p.f0, .string p.f1.f0, .string p.f1.f1, .int .i64 p.f1.f2, .int .i64 p.f1.f3, .bool p.f1.f4, .slice A6 p.f1.f5.length c6] 94 5 (.bool p.f1.f4) rfl).1
        have hX6 := (newCell wr #[.string p.f0, .string p.f1.f0, .string p.f1.f1, .int .i64 p.f1.f2, .int .i64 p.f1.f3, .bool p.f1.f4, .slice A6 p.f1.f5.length c6] 94 6 (.slice A6 p.f1.f5.length c6) rfl).1
        have hba := (Below.refl wr.heap.size wr).alloc (Nat.le_refl _) (.cells #[.string p.f0, .string p.f1.f0, .string p.f1.f1, .int .i64 p.f1.f2, .int .i64 p.f1.f3, .bool p.f1.f4, .slice A6 p.f1.f5.length c6] 94)
        have hpb : wr.heap.size < (wr.alloc (.cells #[.string p.f0, .string p.f1.f0, .string p.f1.f1, .int .i64 p.f1.f2, .int .i64 p.f1.f3, .bool p.f1.f4, .slice A6 p.f1.f5.length c6] 94)).heap.size := by simp
        have HS := Aside0.mk (And.intro hX0 (And.intro hX1 (And.intro hX2 (And.intro hX3 (And.intro hX4 (And.intro hX5 (And.intro hX6 (And.intro (cell_moved (B := 0) hba HX.out.1) (below_step HX.out.2.2 hba)))))))))
        have HN := Aside0.mk (Nat.lt_of_lt_of_le HX.out.2.1 hba.size)
        clear hba hpb hX1 hX2 hX3 hX4 hX5 hX6 HX
        cases hf : fileP p.f0 with
        | false =>
          rw [hf] at cF
          have hE5 := HE3.out
          rw [show podE prev p = 13 from by unfold podE; rw [hf]; rfl, if_neg (by decide)] at hE5
          have HF9 := Aside0.mk (show stateP l = 13 from by rw [HF.out, ← hE5])
          clear hE5 HE3 hf
          go_wp2_with (go_at_call 90; refine (cF _).mono ?_; rintro e w3 ⟨rfl, hb⟩; have HB3 := Aside0.mk (below_step HS.out.2.2.2.2.2.2.2.2 hb); clear hb)
          go_ret
          exact ⟨by rw [HF9.out]; rfl, HB3.out⟩
        | true =>
          rw [hf] at cF
          have HPE := Aside0.mk (show podE prev p = if fileLe prev p then 6 else podOf p from by unfold podE; rw [hf]; rfl)
          clear hf
          go_wp2_with (go_at_call 90; refine (cF _).mono ?_; rintro e w3 ⟨rfl, hb⟩; have HB3 := Aside0.mk (below_step HS.out.2.2.2.2.2.2.2.2 hb); have HS3 := Aside0.mk (And.intro (cell_moved (B := 0) hb HS.out.1) (And.intro (cell_moved (B := 0) hb HS.out.2.1) (And.intro (cell_moved (B := 0) hb HS.out.2.2.1) (And.intro (cell_moved (B := 0) hb HS.out.2.2.2.1) (And.intro (cell_moved (B := 0) hb HS.out.2.2.2.2.1) (And.intro (cell_moved (B := 0) hb HS.out.2.2.2.2.2.1) (And.intro (cell_moved (B := 0) hb HS.out.2.2.2.2.2.2.1) (cell_moved (B := 0) hb HS.out.2.2.2.2.2.2.2.1)))))))); have HN3 := Aside0.mk (Nat.lt_of_lt_of_le HN.out hb.size); clear hb)
          clear cF HS hX0 k0 k1 k2 k3 k4 k5 k6 HN
          generalize wr.heap.size = pb at HS3 ⊢
          have e0 := HS3.out.1
          have e9 := HS3.out.2.2.2.2.2.2.2
          rcases HPV.out with ⟨hj0', hpv⟩ | ⟨i, hji, hpv⟩
          · have hjz : decide (0 < j) = false := by rw [hj0']; decide
            replace HPE := Aside0.mk (show podE prev p = podOf p from by rw [HPE.out, hpv]; rfl)
            clear hj0' hpv HPV
            refine start_ (n := 15) (S := fun w' => w'.cell? ⟨pb, 0, none⟩ = some (.string p.f0) ∧ w'.cell? ⟨w.heap.size, 1, none⟩ = some (.slice (some ad) l.length c1) ∧ Below w.heap.size w w' ∧ Below w3.heap.size w3 w') (ds := []) (bl 15 0) (by kernel_rfl) rfl (by kernel_rfl) ⟨e0, e9, (below_drew1 HB3.out), (below_drew1 (Below.refl _ _))⟩ (fun hHeld => ?_)
            refine pure_ (i := 0) (N := some 24) (v := ?_) (a' := ?_) (bl 15 1) rfl rfl (by kernel_rfl) (fun _ _ _ h => h) (Or.inl ⟨by rfl, ?_⟩) ?_ ?_; rotate_left
            · (intro w'; go_simp; with_reducible rfl)
            rotate_left
            · (simp only [Act.put, List.setIfInBounds_toArray, List.set_cons_zero, List.set_cons_succ, i64_w, i32_w]; rfl)
            refine pure_ (i := 1) (N := some 25) (v := ?_) (a' := ?_) (bl 15 3) rfl rfl (by kernel_rfl) (fun _ _ _ h => h) (Or.inl ⟨by rfl, ?_⟩) ?_ ?_; rotate_left
            · (intro w'; go_simp; with_reducible rfl)
            rotate_left
            · (simp only [Act.put, List.setIfInBounds_toArray, List.set_cons_zero, List.set_cons_succ, i64_w, i32_w]; rfl)
            refine pure_ (i := 2) (N := some 26) (v := ?_) (a' := ?_) (bl 15 7) rfl rfl (by kernel_rfl) (fun _ _ _ h => h) (Or.inl ⟨by rfl, ?_⟩) ?_ ?_; rotate_left
            · (intro w'; go_simp; with_reducible rfl)
            rotate_left
            · (simp only [Act.put, List.setIfInBounds_toArray, List.set_cons_zero, List.set_cons_succ, i64_w, i32_w]; rfl)
            refine join_ (σ := Value × Value × Value × Value × Value × Value × Value × Value × Value × Value × Bool) 1 (bl 15 16383) (fun x => [(27, x.1), (28, x.2.1), (29, x.2.2.1), (30, x.2.2.2.1), (31, x.2.2.2.2.1), (32, x.2.2.2.2.2.1), (33, x.2.2.2.2.2.2.1), (34, x.2.2.2.2.2.2.2.1), (35, x.2.2.2.2.2.2.2.2.1), (36, x.2.2.2.2.2.2.2.2.2.1), (37, .bool x.2.2.2.2.2.2.2.2.2.2)]) (fun x w' => (w'.cell? ⟨pb, 0, none⟩ = some (.string p.f0) ∧ w'.cell? ⟨w.heap.size, 1, none⟩ = some (.slice (some ad) l.length c1) ∧ Below w.heap.size w w' ∧ Below w3.heap.size w3 w') ∧ x.2.2.2.2.2.2.2.2.2.2 = false) ?_ ?_
            rotate_left
            · intro hCont
              generalize hd0 : decide (0 < j) = d0
              obtain rfl := hd0.symm.trans hjz
              · skip
                refine pure_ (i := 3) (N := some 27) (v := undef) (a' := ?_) (bl 15 15) rfl rfl (by kernel_rfl) (fun _ _ _ h => h) (Or.inr ⟨by rfl, rfl⟩) ?_ ?_; rotate_left
                · (simp only [Act.put, List.setIfInBounds_toArray, List.set_cons_zero, List.set_cons_succ, i64_w, i32_w]; rfl)
                refine pure_ (i := 4) (N := some 28) (v := undef) (a' := ?_) (bl 15 31) rfl rfl (by kernel_rfl) (fun _ _ _ h => h) (Or.inr ⟨by rfl, rfl⟩) ?_ ?_; rotate_left
                · (simp only [Act.put, List.setIfInBounds_toArray, List.set_cons_zero, List.set_cons_succ, i64_w, i32_w]; rfl)
                refine pure_ (i := 5) (N := some 29) (v := undef) (a' := ?_) (bl 15 63) rfl rfl (by kernel_rfl) (fun _ _ _ h => h) (Or.inr ⟨by rfl, rfl⟩) ?_ ?_; rotate_left
                · (simp only [Act.put, List.setIfInBounds_toArray, List.set_cons_zero, List.set_cons_succ, i64_w, i32_w]; rfl)
                refine pure_ (i := 6) (N := some 30) (v := undef) (a' := ?_) (bl 15 127) rfl rfl (by kernel_rfl) (fun _ _ _ h => h) (Or.inr ⟨by rfl, rfl⟩) ?_ ?_; rotate_left
                · (simp only [Act.put, List.setIfInBounds_toArray, List.set_cons_zero, List.set_cons_succ, i64_w, i32_w]; rfl)
                refine pure_ (i := 7) (N := some 31) (v := undef) (a' := ?_) (bl 15 255) rfl rfl (by kernel_rfl) (fun _ _ _ h => h) (Or.inr ⟨by rfl, rfl⟩) ?_ ?_; rotate_left
                · (simp only [Act.put, List.setIfInBounds_toArray, List.set_cons_zero, List.set_cons_succ, i64_w, i32_w]; rfl)
                refine pure_ (i := 8) (N := some 32) (v := undef) (a' := ?_) (bl 15 511) rfl rfl (by kernel_rfl) (fun _ _ _ h => h) (Or.inr ⟨by rfl, rfl⟩) ?_ ?_; rotate_left
                · (simp only [Act.put, List.setIfInBounds_toArray, List.set_cons_zero, List.set_cons_succ, i64_w, i32_w]; rfl)
                refine pure_ (i := 9) (N := some 33) (v := undef) (a' := ?_) (bl 15 1023) rfl rfl (by kernel_rfl) (fun _ _ _ h => h) (Or.inr ⟨by rfl, rfl⟩) ?_ ?_; rotate_left
                · (simp only [Act.put, List.setIfInBounds_toArray, List.set_cons_zero, List.set_cons_succ, i64_w, i32_w]; rfl)
                refine pure_ (i := 10) (N := some 34) (v := undef) (a' := ?_) (bl 15 2047) rfl rfl (by kernel_rfl) (fun _ _ _ h => h) (Or.inr ⟨by rfl, rfl⟩) ?_ ?_; rotate_left
                · (simp only [Act.put, List.setIfInBounds_toArray, List.set_cons_zero, List.set_cons_succ, i64_w, i32_w]; rfl)
                refine pure_ (i := 11) (N := some 35) (v := undef) (a' := ?_) (bl 15 4095) rfl rfl (by kernel_rfl) (fun _ _ _ h => h) (Or.inr ⟨by rfl, rfl⟩) ?_ ?_; rotate_left
                · (simp only [Act.put, List.setIfInBounds_toArray, List.set_cons_zero, List.set_cons_succ, i64_w, i32_w]; rfl)
                refine pure_ (i := 12) (N := some 36) (v := undef) (a' := ?_) (bl 15 8191) rfl rfl (by kernel_rfl) (fun _ _ _ h => h) (Or.inr ⟨by rfl, rfl⟩) ?_ ?_; rotate_left
                · (simp only [Act.put, List.setIfInBounds_toArray, List.set_cons_zero, List.set_cons_succ, i64_w, i32_w]; rfl)
                refine pure_ (i := 13) (N := some 37) (v := ?_) (a' := ?_) (bl 15 16383) rfl rfl (by kernel_rfl) (fun _ _ _ h => h) (Or.inl ⟨by rfl, ?_⟩) ?_ ?_; rotate_left
                · (intro w'; go_simp; with_reducible rfl)
                rotate_left
                · (simp only [Act.put, List.setIfInBounds_toArray, List.set_cons_zero, List.set_cons_succ, i64_w, i32_w]; rfl)
                exact norm_ (by simp only [hjz, putAll, Act.put, List.setIfInBounds_toArray, List.set_cons_zero, List.set_cons_succ]) (hCont (undef, undef, undef, undef, undef, undef, undef, undef, undef, undef, false) _ ⟨hHeld, rfl⟩)
            rintro ⟨v27, v28, v29, v30, v31, v32, v33, v34, v35, v36, b37⟩ wq ⟨hNow, hbq⟩
            dsimp only at hbq
            subst hbq
            clear hHeld
            have hHeld := hNow
            clear hNow
            refine norm_ (a' := ?_) ?_ ?_
            rotate_left
            · simp only [putAll, Act.put, List.setIfInBounds_toArray, List.set_cons_zero, List.set_cons_succ]
              rfl
            refine pure_ (i := 14) (N := some 23) (v := ?_) (a' := ?_) (bl 15 32767) rfl rfl (by kernel_rfl) (fun _ _ _ h => h) (Or.inl ⟨by rfl, ?_⟩) ?_ ?_; rotate_left
            · (intro w'; go_simp; with_reducible rfl)
            rotate_left
            · (simp only [Act.put, List.setIfInBounds_toArray, List.set_cons_zero, List.set_cons_succ, i64_w, i32_w]; rfl)
            refine done_ (by kernel_rfl) ?_
            have HB4 := Aside0.mk hHeld.2.2.1
            have f9 := hHeld.2.1
            have f0 := hHeld.1
            have hbw := hHeld.2.2.2
            have f1 := cell_moved (B := 0) hbw HS3.out.2.1
            have f2 := cell_moved (B := 0) hbw HS3.out.2.2.1
            have f3 := cell_moved (B := 0) hbw HS3.out.2.2.2.1
            have f4 := cell_moved (B := 0) hbw HS3.out.2.2.2.2.1
            have f5 := cell_moved (B := 0) hbw HS3.out.2.2.2.2.2.1
            have f6 := cell_moved (B := 0) hbw HS3.out.2.2.2.2.2.2.1
            have HN4 := Aside0.mk (Nat.lt_of_lt_of_le HN3.out hbw.size)
            have HX9 := Aside0.mk f9
            clear hHeld e0 e9 hjz hbw HS3 HN3 HB3 f9
            have cP : Calls Tryz.prog 101 #[.agg #[.string p.f1.f0, .string p.f1.f1, .int .i64 p.f1.f2, .int .i64 p.f1.f3, .bool p.f1.f4, .slice A6 p.f1.f5.length c6]] wq fun e w' => e = .returned (.int .i64 (podOf p)) ∧ Below wq.heap.size wq w' :=
              spec_Pod_Check.calls p.f1.f0 p.f1.f1 p.f1.f2 p.f1.f3 p.f1.f4 A6 c6 p.f1.f5 wq (HT.out.below HB4.out) (Kd.C_below HG.out.2 HB4.out) HG.out.1 HOK.out.2.1 HOK.out.2.2.1 HOK.out.2.2.2.1 HOK.out.2.2.2.2
            have hE8 := HE3.out
            rw [HPE.out] at hE8
            generalize podOf p = r at cP hE8
            by_cases h2 : r = 0
            · rw [if_pos h2] at hE8
              have HE9 := Aside0.mk hE8
              clear hE8 HE3 HPE HG HOK
              subst h2
              go_wp2_with (go_at_call 101; refine cP.mono ?_; rintro e w5 ⟨rfl, hb⟩; have HX10 := Aside0.mk (And.intro (cell_moved (B := 0) hb HX9.out) (And.intro (Nat.lt_of_lt_of_le HN4.out hb.size) (below_step HB4.out hb))); clear hb)
              have hw1 : wrap64 ((j : Int) + 1) = ((j + 1 : Nat) : Int) := by unfold wrap64; omega
              go_roundw
              case rel => exact ⟨j + 1, some p.f0, by simp [hw1], hlt, HE9, HNX, HX10⟩
              case measure => simp [intOf, hw1]; omega
            · have hz0 : (r == 0) = false := beq_eq_false_iff_ne.2 h2
              have hz1 : (r != 0) = true := bne_iff_ne.2 h2
              rw [if_neg h2] at hE8
              have HF9 := Aside0.mk (show stateP l = r from by rw [HF.out, ← hE8])
              clear hE8 HE3 HPE HG HOK h2
              go_wp2_with (go_at_call 101; refine cP.mono ?_; rintro e w5 ⟨rfl, hb⟩; have HB5 := Aside0.mk (below_step HB4.out hb); clear hb)
              go_ret
              exact ⟨by rw [HF9.out]; rfl, HB5.out⟩
          · have hjz : decide (0 < j) = true := decide_eq_true (by omega)
            have hi2 : (i : Int) < (l.length : Int) := by omega
            obtain ⟨ad2, _, _, ea2, x0, _⟩ := at_T94 H1.out (i : Int) (by omega) hi2
            cases ea2
            rw [Int.toNat_natCast] at x0
            replace x0 := cell_moved (B := 0) HB3.out x0
            generalize (rd_T94 l (i : Int)).f0 = q at x0 hpv
            have hw0 : wrap64 ((j : Int) - 1) = (i : Int) := by unfold wrap64; omega
            have hi0 : (0 : Int) ≤ (i : Int) := by omega
            obtain ⟨sl, hsl⟩ : ∃ sl, sl = strLe p.f0 q := ⟨_, rfl⟩
            replace HPE := Aside0.mk (show podE prev p = if sl then 6 else podOf p from by rw [HPE.out, hpv, hsl]; rfl)
            clear hji hpv HPV
            have hle : ∀ W, (binOp .leq 9 (.string p.f0) (.string q)).run Tryz.prog W = .ok (.bool sl) W := fun W => by rw [run_leS, hsl]; rfl
            clear hsl
            refine start_ (n := 15) (S := fun w' => w'.cell? ⟨pb, 0, none⟩ = some (.string p.f0) ∧ w'.cell? ⟨w.heap.size, 1, none⟩ = some (.slice (some ad) l.length c1) ∧ Below w.heap.size w w' ∧ Below w3.heap.size w3 w' ∧ w'.cell? (ad.add (i * 7)) = some (.string q)) (ds := []) (bl 15 0) (by kernel_rfl) rfl (by kernel_rfl) ⟨e0, e9, (below_drew1 HB3.out), (below_drew1 (Below.refl _ _)), x0⟩ (fun hHeld => ?_)
            refine pure_ (i := 0) (N := some 24) (v := ?_) (a' := ?_) (bl 15 1) rfl rfl (by kernel_rfl) (fun _ _ _ h => h) (Or.inl ⟨by rfl, ?_⟩) ?_ ?_; rotate_left
            · (intro w'; go_simp; with_reducible rfl)
            rotate_left
            · (simp only [Act.put, List.setIfInBounds_toArray, List.set_cons_zero, List.set_cons_succ, i64_w, i32_w]; rfl)
            refine pure_ (i := 1) (N := some 25) (v := ?_) (a' := ?_) (bl 15 3) rfl rfl (by kernel_rfl) (fun _ _ _ h => h) (Or.inl ⟨by rfl, ?_⟩) ?_ ?_; rotate_left
            · (intro w'; go_simp; with_reducible rfl)
            rotate_left
            · (simp only [Act.put, List.setIfInBounds_toArray, List.set_cons_zero, List.set_cons_succ, i64_w, i32_w]; rfl)
            refine pure_ (i := 2) (N := some 26) (v := ?_) (a' := ?_) (bl 15 7) rfl rfl (by kernel_rfl) (fun _ _ _ h => h) (Or.inl ⟨by rfl, ?_⟩) ?_ ?_; rotate_left
            · (intro w'; go_simp; with_reducible rfl)
            rotate_left
            · (simp only [Act.put, List.setIfInBounds_toArray, List.set_cons_zero, List.set_cons_succ, i64_w, i32_w]; rfl)
            refine join_ (σ := Value × Value × Value × Value × Value × Value × Value × Value × Value × Value × Bool) 1 (bl 15 16383) (fun x => [(27, x.1), (28, x.2.1), (29, x.2.2.1), (30, x.2.2.2.1), (31, x.2.2.2.2.1), (32, x.2.2.2.2.2.1), (33, x.2.2.2.2.2.2.1), (34, x.2.2.2.2.2.2.2.1), (35, x.2.2.2.2.2.2.2.2.1), (36, x.2.2.2.2.2.2.2.2.2.1), (37, .bool x.2.2.2.2.2.2.2.2.2.2)]) (fun x w' => (w'.cell? ⟨pb, 0, none⟩ = some (.string p.f0) ∧ w'.cell? ⟨w.heap.size, 1, none⟩ = some (.slice (some ad) l.length c1) ∧ Below w.heap.size w w' ∧ Below w3.heap.size w3 w' ∧ w'.cell? (ad.add (i * 7)) = some (.string q)) ∧ x.2.2.2.2.2.2.2.2.2.2 = sl) ?_ ?_
            rotate_left
            · intro hCont
              generalize hd0 : decide (0 < j) = d0
              obtain rfl := hd0.symm.trans hjz
              · skip
                refine pure_ (i := 3) (N := some 27) (v := ?_) (a' := ?_) (bl 15 15) rfl rfl (by kernel_rfl) (fun _ _ _ h => h) (Or.inl ⟨by rfl, ?_⟩) ?_ ?_; rotate_left
                · (intro w'; go_simp; with_reducible rfl)
                rotate_left
                · (simp only [Act.put, List.setIfInBounds_toArray, List.set_cons_zero, List.set_cons_succ, i64_w, i32_w]; rfl)
                refine take_ (i := 4) (N := some 28) (v := ?_) (a' := ?_) (bl 15 31) rfl rfl (by kernel_rfl) (fun _ _ _ h => h) (Or.inl ⟨by rfl, ?_⟩) hHeld ?_ ?_; rotate_left
                · (rintro w' ⟨s0, s1, s2, s3, s4⟩; go_simp; with_reducible rfl)
                rotate_left
                · (simp only [Act.put, List.setIfInBounds_toArray, List.set_cons_zero, List.set_cons_succ, i64_w, i32_w]; rfl)
                refine pure_ (i := 5) (N := some 29) (v := ?_) (a' := ?_) (bl 15 63) rfl rfl (by kernel_rfl) (fun _ _ _ h => h) (Or.inl ⟨by rfl, ?_⟩) ?_ ?_; rotate_left
                · (intro w'; go_simp; with_reducible rfl)
                rotate_left
                · (simp only [Act.put, List.setIfInBounds_toArray, List.set_cons_zero, List.set_cons_succ, i64_w, i32_w]; rfl)
                refine take_ (i := 6) (N := some 30) (v := ?_) (a' := ?_) (bl 15 127) rfl rfl (by kernel_rfl) (fun _ _ _ h => h) (Or.inl ⟨by rfl, ?_⟩) hHeld ?_ ?_; rotate_left
                · (rintro w' ⟨s0, s1, s2, s3, s4⟩; go_simp; with_reducible rfl)
                rotate_left
                · (simp only [Act.put, List.setIfInBounds_toArray, List.set_cons_zero, List.set_cons_succ, i64_w, i32_w]; rfl)
                refine pure_ (i := 7) (N := some 31) (v := ?_) (a' := ?_) (bl 15 255) rfl rfl (by kernel_rfl) (fun _ _ _ h => h) (Or.inl ⟨by rfl, ?_⟩) ?_ ?_; rotate_left
                · (intro w'; go_simp; with_reducible rfl)
                rotate_left
                · (simp only [Act.put, List.setIfInBounds_toArray, List.set_cons_zero, List.set_cons_succ, i64_w, i32_w]; rfl)
                refine pure_ (i := 8) (N := some 32) (v := ?_) (a' := ?_) (bl 15 511) rfl rfl (by kernel_rfl) (fun _ _ _ h => h) (Or.inl ⟨by rfl, ?_⟩) ?_ ?_; rotate_left
                · (intro w'; go_simp; with_reducible rfl)
                rotate_left
                · (simp only [Act.put, List.setIfInBounds_toArray, List.set_cons_zero, List.set_cons_succ, i64_w, i32_w]; rfl)
                refine pure_ (i := 9) (N := some 33) (v := ?_) (a' := ?_) (bl 15 1023) rfl rfl (by kernel_rfl) (fun _ _ _ h => h) (Or.inl ⟨by rfl, ?_⟩) ?_ ?_; rotate_left
                · (intro w'; go_simp; with_reducible rfl)
                rotate_left
                · (simp only [Act.put, List.setIfInBounds_toArray, List.set_cons_zero, List.set_cons_succ, i64_w, i32_w]; rfl)
                refine pure_ (i := 10) (N := some 34) (v := ?_) (a' := ?_) (bl 15 2047) rfl rfl (by kernel_rfl) (fun _ _ _ h => h) (Or.inl ⟨by rfl, ?_⟩) ?_ ?_; rotate_left
                · (intro w'; go_simp; with_reducible rfl)
                rotate_left
                · (simp only [Act.put, List.setIfInBounds_toArray, List.set_cons_zero, List.set_cons_succ, i64_w, i32_w]; rfl)
                refine take_ (i := 11) (N := some 35) (v := ?_) (a' := ?_) (bl 15 4095) rfl rfl (by kernel_rfl) (fun _ _ _ h => h) (Or.inl ⟨by rfl, ?_⟩) hHeld ?_ ?_; rotate_left
                · (rintro w' ⟨s0, s1, s2, s3, s4⟩; go_simp; with_reducible rfl)
                rotate_left
                · (simp only [Act.put, List.setIfInBounds_toArray, List.set_cons_zero, List.set_cons_succ, i64_w, i32_w]; rfl)
                refine pure_ (i := 12) (N := some 36) (v := ?_) (a' := ?_) (bl 15 8191) rfl rfl (by kernel_rfl) (fun _ _ _ h => h) (Or.inl ⟨by rfl, ?_⟩) ?_ ?_; rotate_left
                · (intro w'; go_simp; with_reducible rfl)
                rotate_left
                · (simp only [Act.put, List.setIfInBounds_toArray, List.set_cons_zero, List.set_cons_succ, i64_w, i32_w]; rfl)
                refine pure_ (i := 13) (N := some 37) (v := ?_) (a' := ?_) (bl 15 16383) rfl rfl (by kernel_rfl) (fun _ _ _ h => h) (Or.inl ⟨by rfl, ?_⟩) ?_ ?_; rotate_left
                · (intro w'; go_simp; with_reducible rfl)
                rotate_left
                · (simp only [Act.put, List.setIfInBounds_toArray, List.set_cons_zero, List.set_cons_succ, i64_w, i32_w]; rfl)
                exact norm_ (by simp only [hjz, putAll, Act.put, List.setIfInBounds_toArray, List.set_cons_zero, List.set_cons_succ]) (hCont (.pointer (some ⟨pb, 0, none⟩), .string p.f0, .pointer (some ⟨w.heap.size, 1, none⟩), .slice (some ad) l.length c1, .int .i64 (j : Int), .int .i64 (wrap64 ((j : Int) - 1)), .pointer (some (ad.add (i * 7))), .pointer (some (ad.add (i * 7))), .string q, .bool sl, sl) _ ⟨hHeld, rfl⟩)
            rintro ⟨v27, v28, v29, v30, v31, v32, v33, v34, v35, v36, b37⟩ wq ⟨hNow, hbq⟩
            dsimp only at hbq
            subst hbq
            clear hHeld
            have hHeld := hNow
            clear hNow
            refine norm_ (a' := ?_) ?_ ?_
            rotate_left
            · simp only [putAll, Act.put, List.setIfInBounds_toArray, List.set_cons_zero, List.set_cons_succ]
              rfl
            refine pure_ (i := 14) (N := some 23) (v := ?_) (a' := ?_) (bl 15 32767) rfl rfl (by kernel_rfl) (fun _ _ _ h => h) (Or.inl ⟨by rfl, ?_⟩) ?_ ?_; rotate_left
            · (intro w'; go_simp; with_reducible rfl)
            rotate_left
            · (simp only [Act.put, List.setIfInBounds_toArray, List.set_cons_zero, List.set_cons_succ, i64_w, i32_w]; rfl)
            refine done_ (by kernel_rfl) ?_
            cases b37 with
            | true =>
              have hE8 := HE3.out
              rw [show podE prev p = 6 from HPE.out, if_neg (by decide)] at hE8
              have HF9 := Aside0.mk (show stateP l = 6 from by rw [HF.out, ← hE8])
              have HB4 := Aside0.mk hHeld.2.2.1
              clear hE8 HE3 HPE HG HOK hHeld e0 e9 hjz HS3 HN3 HB3 x0 hle
              go_wp2_with fail
              go_ret
              exact ⟨by rw [HF9.out]; rfl, HB4.out⟩
            | false =>
              replace HPE := Aside0.mk (show podE prev p = podOf p from HPE.out)
              clear hle x0
              have HB4 := Aside0.mk hHeld.2.2.1
              have f9 := hHeld.2.1
              have f0 := hHeld.1
              have hbw := hHeld.2.2.2.1
              have f1 := cell_moved (B := 0) hbw HS3.out.2.1
              have f2 := cell_moved (B := 0) hbw HS3.out.2.2.1
              have f3 := cell_moved (B := 0) hbw HS3.out.2.2.2.1
              have f4 := cell_moved (B := 0) hbw HS3.out.2.2.2.2.1
              have f5 := cell_moved (B := 0) hbw HS3.out.2.2.2.2.2.1
              have f6 := cell_moved (B := 0) hbw HS3.out.2.2.2.2.2.2.1
              have HN4 := Aside0.mk (Nat.lt_of_lt_of_le HN3.out hbw.size)
              have HX9 := Aside0.mk f9
              clear hHeld e0 e9 hjz hbw HS3 HN3 HB3 f9
              have cP : Calls Tryz.prog 101 #[.agg #[.string p.f1.f0, .string p.f1.f1, .int .i64 p.f1.f2, .int .i64 p.f1.f3, .bool p.f1.f4, .slice A6 p.f1.f5.length c6]] wq fun e w' => e = .returned (.int .i64 (podOf p)) ∧ Below wq.heap.size wq w' :=
                spec_Pod_Check.calls p.f1.f0 p.f1.f1 p.f1.f2 p.f1.f3 p.f1.f4 A6 c6 p.f1.f5 wq (HT.out.below HB4.out) (Kd.C_below HG.out.2 HB4.out) HG.out.1 HOK.out.2.1 HOK.out.2.2.1 HOK.out.2.2.2.1 HOK.out.2.2.2.2
              have hE8 := HE3.out
              rw [HPE.out] at hE8
              generalize podOf p = r at cP hE8
              by_cases h2 : r = 0
              · rw [if_pos h2] at hE8
                have HE9 := Aside0.mk hE8
                clear hE8 HE3 HPE HG HOK
                subst h2
                go_wp2_with (go_at_call 101; refine cP.mono ?_; rintro e w5 ⟨rfl, hb⟩; have HX10 := Aside0.mk (And.intro (cell_moved (B := 0) hb HX9.out) (And.intro (Nat.lt_of_lt_of_le HN4.out hb.size) (below_step HB4.out hb))); clear hb)
                have hw1 : wrap64 ((j : Int) + 1) = ((j + 1 : Nat) : Int) := by unfold wrap64; omega
                go_roundw
                case rel => exact ⟨j + 1, some p.f0, by simp [hw1], hlt, HE9, HNX, HX10⟩
                case measure => simp [intOf, hw1]; omega
              · have hz0 : (r == 0) = false := beq_eq_false_iff_ne.2 h2
                have hz1 : (r != 0) = true := bne_iff_ne.2 h2
                rw [if_neg h2] at hE8
                have HF9 := Aside0.mk (show stateP l = r from by rw [HF.out, ← hE8])
                clear hE8 HE3 HPE HG HOK h2
                go_wp2_with (go_at_call 101; refine cP.mono ?_; rintro e w5 ⟨rfl, hb⟩; have HB5 := Aside0.mk (below_step HB4.out hb); clear hb)
                go_ret
                exact ⟨by rw [HF9.out]; rfl, HB5.out⟩
      · have hlt7 : ¬ (j : Int) < (l.length : Int) := by omega
        have hz : podsP none l = 0 := by rw [← HE3.out, List.drop_of_length_le (by omega)]; rfl
        have HF9 := Aside0.mk (HF.out.trans hz)
        clear HE3 hz HF
        go_wp2_with fail
        go_ret
        exact ⟨by rw [HF9.out]; rfl, HX.out.2.2⟩
end Go.Proofs.YtlmeelmjodjfpaaGreatDoor.PB
end
section
namespace Go.Proofs.YtlmeelmjodjfpaaGreatDoor.PB
open Go.RowKit Go.Maps Go.Proofs.YtlmeelmjodjfpaaGreatDoorW.PrintWords Go.Proofs.YtlmeelmjodjfpaaGreatDoorW.PrintLast Go.Proofs.YtlmeelmjodjfpaaGreatDoorW.PrintMore
open Fr (tx tx_list tx_size tx_app be1 be2 be4 put1 put2 put4)
set_option linter.unusedVariables false
set_option linter.unusedSimpArgs false
def flagB (b : Bool) : List UInt8 := if b then [1] else [0]
theorem cFlag (b : Bool) (w : World) : Calls Tryz.prog 76 #[.bool b] w fun e w' => e = .returned (.string (tx (flagB b))) ∧ Below w.heap.size w w' := by
  refine (pack_Flag.calls b (tx (flagB b)) w (by unfold pack_Flag.f flagB; cases b <;> rfl)).mono ?_
  rintro e w' ⟨rfl, hd⟩
  exact ⟨rfl, by obtain ⟨m, rfl⟩ := hd; exact pw_below_drewN (Below.refl _ _) _⟩
theorem flagB_length (b : Bool) : (flagB b).length = 1 := by cases b <;> rfl
def contsB (l : List S104) : List UInt8 := (l.map contB).flatten
def podB (p : S94) : List UInt8 := textsB [p.f0, p.f1.f0, p.f1.f1] ++ numP 1 (uN p.f1.f2) ++ numP 2 (uN p.f1.f3) ++ flagB p.f1.f4 ++ numP 1 p.f1.f5.length ++ contsB p.f1.f5
def podsB (l : List S94) : List UInt8 := (l.map podB).flatten
def stateB (sq : Nat) (l : List S94) : List UInt8 := numP 8 sq ++ numP 2 l.length ++ podsB l
def SmallC (c : S104) : Prop := c.f2.length ≤ 16 ∧ c.f3.length ≤ 16 ∧ c.f6.length ≤ 16
def SmallP (p : S94) : Prop := p.f1.f5.length ≤ 16 ∧ ∀ c ∈ p.f1.f5, SmallC c
theorem orP_zero {a b : Int} (h : orP a b = 0) : a = 0 ∧ b = 0 := by unfold orP at h; split at h <;> simp_all
theorem whenP_zero {b : Bool} {e : Int} (he : e ≠ 0) (h : whenP b e = 0) : b = false := by unfold whenP at h; split at h <;> simp_all
theorem chP_small {seen : List ByteArray} {c : S104} (h : chP seen c = 0) : SmallC c := by
  unfold chP at h
  have h4 := whenP_zero (by decide) (orP_zero (orP_zero (orP_zero (orP_zero h).2).2).2).1
  simp only [Bool.or_eq_false_iff, manyP, decide_eq_false_iff_not] at h4
  exact ⟨by omega, by omega, by omega⟩
theorem contsP_small : ∀ (l : List S104) (seen : List ByteArray), contsP seen l = 0 → ∀ c ∈ l, SmallC c := by
  intro l
  induction l with
  | nil => intro _ _ c hc; cases hc
  | cons x r ih =>
    intro seen h c hc
    unfold contsP at h
    split at h
    · rename_i h0
      rcases List.mem_cons.1 hc with rfl | hc
      · exact chP_small (orP_zero h0).1
      · exact ih _ h c hc
    · rename_i h0; exact absurd h h0
theorem podOf_small {p : S94} (h : podOf p = 0) : SmallP p := by
  unfold podOf podP at h
  obtain ⟨h1, h2⟩ := orP_zero h
  have h3 := whenP_zero (by decide) (orP_zero (orP_zero (orP_zero h1).2).2).2
  simp only [manyP, decide_eq_false_iff_not] at h3
  exact ⟨by omega, contsP_small _ _ h2⟩
theorem podsP_small : ∀ (l : List S94) (prev : Option ByteArray), podsP prev l = 0 → ∀ p ∈ l, SmallP p := by
  intro l
  induction l with
  | nil => intro _ _ c hc; cases hc
  | cons x r ih =>
    intro prev h c hc
    unfold podsP at h
    split at h
    · rename_i h0
      rcases List.mem_cons.1 hc with rfl | hc
      · unfold podE at h0
        split at h0
        · split at h0
          · cases h0
          · exact podOf_small h0
        · cases h0
      · exact ih _ h c hc
    · rename_i h0; exact absurd h h0
theorem stateP_small {l : List S94} (h : stateP l = 0) : l.length ≤ 1024 ∧ ∀ p ∈ l, SmallP p := by
  unfold stateP at h
  split at h
  · cases h
  · exact ⟨by omega, podsP_small _ _ h⟩
theorem flat_length_mem {α : Type} (f : α → List UInt8) (n : Nat) (xs : List α) (h : ∀ x ∈ xs, (f x).length ≤ n) : (xs.map f).flatten.length ≤ n * xs.length := by
  induction xs with
  | nil => simp
  | cons x r ih =>
    have h1 := h x List.mem_cons_self
    have h2 := ih (fun y hy => h y (List.mem_cons_of_mem _ hy))
    simp only [List.map_cons, List.flatten_cons, List.length_append, List.length_cons]
    rw [Nat.mul_succ]
    omega
theorem contB_small {x : S104} (h : SmallC x) : (contB x).length ≤ 205000 := by have := contB_length x; obtain ⟨h1, h2, h3⟩ := h; omega
theorem contsB_small {l : List S104} (h : ∀ c ∈ l, SmallC c) : (contsB l).length ≤ 205000 * l.length := flat_length_mem contB _ l (fun x hx => contB_small (h x hx))
theorem podB_small {p : S94} (h : SmallP p) : (podB p).length ≤ 3300000 := by
  have h1 := textsB_length [p.f0, p.f1.f0, p.f1.f1]
  have h2 := contsB_small h.2
  have h3 := h.1
  simp only [podB, List.length_append, numP1_length, numP2_length, flagB_length, List.length_cons, List.length_nil] at *
  omega
theorem podsB_small {l : List S94} (h : ∀ p ∈ l, SmallP p) : (podsB l).length ≤ 3300000 * l.length := flat_length_mem podB _ l (fun x hx => podB_small (h x hx))
theorem contsB_step (xs : List S104) (j : Nat) (h : j < xs.length) : contsB (xs.take (j + 1)) = contsB (xs.take j) ++ contB (rd_T104 xs (j : Int)) := by
  rw [show rd_T104 xs (j : Int) = xs[j] from by simp [rd_T104, List.getD, List.getElem?_eq_getElem h]]
  exact flat_step contB xs j h
theorem podsB_step (xs : List S94) (j : Nat) (h : j < xs.length) : podsB (xs.take (j + 1)) = podsB (xs.take j) ++ podB (rd_T94 xs (j : Int)) := by
  rw [show rd_T94 xs (j : Int) = xs[j] from by simp [rd_T94, List.getD, List.getElem?_eq_getElem h]]
  exact flat_step podB xs j h
/-- A writer that was just laid. -/
theorem WS.new {w0 w : World} (h : Below w0.heap.size w0 w) : WS w0 w.heap.size [] (w.alloc (.cells #[.pointer none, .slice none 0 0] 167)) :=
  ⟨below_alloc h _, .inl ⟨h.size, .slice none 0 0, World.alloc_heap_new w _, ⟨rfl, .inl ⟨rfl, rfl⟩⟩, by simp [Value.ownBlock]⟩⟩
def encB (sq : Nat) (l : List S94) : List UInt8 := if stateP l = 0 then stateB sq l else []
set_option maxHeartbeats 1000000
set_option maxRecDepth 100000
theorem ckthree_Encode.calls (sq : Nat) (A1 : Option Addr) (c1 : Nat) (l : List S94) (w : World) (hT : Tabs w)
    (h1 : k94.C w A1 l.length l) (hc1 : l.length ≤ c1) (s1 : ∀ p ∈ l, SmP p) (hl : l.length ≤ 140737488355328) :
    Calls Tryz.prog 35 #[.agg #[.int .u64 sq, .slice A1 l.length c1]] w fun e w' => e = .returned (.tuple #[.string (tx (encB sq l)), .int .i64 (stateP l)]) ∧ Below w.heap.size w w' := by
  have hba := below_alloc (Below.refl w.heap.size w) (.cells #[.int .u64 sq, .slice A1 l.length c1] 28)
  have cC := ckthree_Check.calls sq A1 c1 l (w.alloc (.cells #[.int .u64 sq, .slice A1 l.length c1] 28)) (hT.below hba) (Kd.C_below h1 hba) hc1 s1 hl
  have HBX := Aside0.mk (World.alloc_heap_new w (.cells #[.int .u64 sq, .slice A1 l.length c1] 28))
  have HBA := Aside0.mk hba
  have G := Aside0.mk h1
  clear hba hT s1 h1
  by_cases h0 : stateP l = 0
  · have HZ := Aside0.mk (stateP_small h0)
    have HE := Aside0.mk (show encB sq l = stateB sq l from by unfold encB; rw [if_pos h0])
    have HE0 := Aside0.mk h0
    rw [h0] at cC
    clear h0
    have hl2 : l.length ≤ 1024 := HZ.out.1
    clear hl
    go_enter Tryz.func35, Tryz.ntmps35
    go_wp2_with (go_at_call 63; refine cC.mono ?_; rintro e w1 ⟨rfl, hb⟩; have HB1 := Aside0.mk (below_step HBA.out hb); have HX1 := Aside0.mk (((hb.block w.heap.size (by simp)).trans HBX.out)); have HN1 := Aside0.mk (Nat.lt_of_lt_of_le (show w.heap.size < (w.alloc (.cells #[.int .u64 sq, .slice A1 l.length c1] 28)).heap.size from by simp) hb.size); clear hb cC HBX HBA; have H1 := Aside0.mk (WS.new HB1.out); have HX2 := Aside0.mk (show (w1.alloc (.cells #[.pointer none, .slice none 0 0] 167)).heap[w.heap.size]? = _ from (Below.heap_alloc _ _ _ HN1.out).trans HX1.out); have e1 : (w1.alloc (.cells #[.pointer none, .slice none 0 0] 167)).cell? ⟨w.heap.size, 0, none⟩ = some (.int .u64 sq) := (by rw [Lib.cell_of_heap HX2.out]; rfl))
    have H2 := Aside0.mk (show CS w (w1.alloc (.cells #[.pointer none, .slice none 0 0] 167)) w1.heap.size w.heap.size (.cells #[.int .u64 sq, .slice A1 l.length c1] 28 (0, 0)) [] (w1.alloc (.cells #[.pointer none, .slice none 0 0] 167)) from ⟨H1.out, KO.refl _ _, HX2.out, Nat.ne_of_lt HN1.out, _, _, _, rfl, by decide⟩)
    clear HX1 HX2 HB1 H1 HN1
    generalize w1.alloc (.cells #[.pointer none, .slice none 0 0] 167) = W2 at H2 e1 ⊢
    generalize w1.heap.size = b at H2 ⊢
    generalize w.heap.size = sb at H2 e1 ⊢
    go_wp2_with (go_at_call 73; refine (writer_number.calls w b [] 8 sq _ H2.out.1 (by decide) (by decide)).mono ?_; rintro e w3 ⟨rfl, l3, E3, m3, s3, k3⟩; have H3 := Aside0.mk (H2.out.step s3 k3); have L3 : l3.length ≤ 8 := (by rw [m3, numP8_length]; exact Nat.le_refl _); clear m3 s3 k3 H2 e1; have e4 := H3.out.cell 1 (.slice A1 l.length c1) rfl)
    go_wp2_with (go_at_call 73; (first | refine (writer_number.calls w b l3 2 l.length _ H3.out.1 (by decide) (by omega)).mono ?_ | refine (writer_numberW.calls w b l3 2 l.length _ H3.out.1 (by decide) (by omega)).mono ?_); rintro e w4 ⟨rfl, l4, E4, m4, s4, k4⟩; have H4 := Aside0.mk (H3.out.step s4 k4); have L4 : l4.length ≤ 10 := (by rw [m4, numP2_length]; omega); clear m4 s4 k4 H3 e4 L3; have e5 := H4.out.cell 1 (.slice A1 l.length c1) rfl)
    clear e5
    go_loopw [31] (fun v31 wr => ∃ j : Nat, v31 = .int .i64 (j : Int) ∧ j ≤ l.length ∧ Aside0 (WS w b (l4 ++ podsB (l.take j)) wr)) (fun v31 _ => l.length - (intOf v31).toNat)
    case atStart => exact ⟨0, rfl, Nat.zero_le _, ⟨by simpa [podsB] using H4.out.1⟩⟩
    case round =>
      clear H4
      obtain ⟨j, rfl, hj, HX⟩ := hrel
      have HP := Aside0.mk (podsB_small (l := l.take j) (fun p hp => HZ.out.2 p (List.mem_of_mem_take hp)))
      by_cases hlt : j < l.length
      · have hlt2 : (j : Int) < (l.length : Int) := by omega
        have hj0 : (0 : Int) ≤ (j : Int) := by omega
        obtain ⟨ad, A6, c6, ea, q0, q1, q2, q3, q4, q5, q6, g6, q7⟩ := at_T94 G.out (j : Int) hj0 hlt2
        subst ea
        rw [Int.toNat_natCast] at q0 q1 q2 q3 q4 q5 q6
        replace q0 := cell_stays HX.out.1 q0
        replace q1 := cell_stays HX.out.1 q1
        replace q2 := cell_stays HX.out.1 q2
        replace q3 := cell_stays HX.out.1 q3
        replace q4 := cell_stays HX.out.1 q4
        replace q5 := cell_stays HX.out.1 q5
        replace q6 := cell_stays HX.out.1 q6
        have HE5 := Aside0.mk (podsB_step l j hlt)
        have HS := Aside0.mk (show SmallP (rd_T94 l (j : Int)) from by rw [show rd_T94 l (j : Int) = l[j] from by simp [rd_T94, List.getD, List.getElem?_eq_getElem hlt]]; exact HZ.out.2 _ (List.getElem_mem hlt))
        generalize rd_T94 l (j : Int) = p at q0 q1 q2 q3 q4 q5 q6 g6 q7 HE5 HS
        have GC := Aside0.mk q7
        have hn5 : p.f1.f5.length ≤ 16 := HS.out.1
        clear q7 g6
        have HL := Aside0.mk (show (l4 ++ podsB (l.take j)).length ≤ 4000000000 from by have := HP.out; rw [List.length_take] at this; rw [List.length_append]; omega)
        clear HP L4
        obtain ⟨la, ha⟩ : ∃ la, la = l4 ++ podsB (l.take j) := ⟨_, rfl⟩
        rw [← ha] at HX HL
        have HA := Aside0.mk ha
        clear ha
        have hXa := CS.lay (HX.out.below (below_alloc (Below.refl _ _) (Obj.cells #[.string p.f0, .string p.f1.f0, .string p.f1.f1, .int .i64 p.f1.f2, .int .i64 p.f1.f3, .bool p.f1.f4, .slice A6 p.f1.f5.length c6] 94 (0, 0)))) #[.string p.f1.f0, .string p.f1.f1, .int .i64 p.f1.f2, .int .i64 p.f1.f3, .bool p.f1.f4, .slice A6 p.f1.f5.length c6] 92 (by decide)
        have c6' := hXa.text3 p.f0 p.f1.f0 p.f1.f1 (by have := HL.out; omega)
        rw [World_size_alloc, World_size_alloc] at c6'
        rw [World_size_alloc] at hXa
        have HXa := Aside0.mk hXa
        clear hXa
        go_wp2_with (go_at_call 74; (with_reducible refine c6'.mono ?_); rintro e w6 ⟨rfl, l6, E6, m6, s6, k6⟩; have H6 := Aside0.mk ((HXa.out.alloc _).step s6 k6); have L6 : l6.length ≤ 4000012294 := (by have := textsB_length [p.f0, p.f1.f0, p.f1.f1]; have := HL.out; simp at *; omega); clear m6 s6 k6 c6' HXa HX q0 q1 q2 q3 q4 q5 q6 HL; generalize wr.alloc (Obj.cells #[.string p.f0, .string p.f1.f0, .string p.f1.f1, .int .i64 p.f1.f2, .int .i64 p.f1.f3, .bool p.f1.f4, .slice A6 p.f1.f5.length c6] 94 (0, 0)) = W5 at H6 ⊢; generalize wr.heap.size + 1 = qb at H6 ⊢; have e7 := H6.out.cell 2 (.int .i64 p.f1.f2) rfl)
        go_wp2_with (go_at_call 73; refine (writer_numberW.calls w b l6 1 p.f1.f2 _ H6.out.1 (by decide) (by omega)).mono ?_; rintro e w7 ⟨rfl, l7, E7, m7, s7, k7⟩; have H7 := Aside0.mk (H6.out.step s7 k7); have L7 : l7.length ≤ 4000012295 := (by rw [m7, numP1_length]; omega); clear m7 s7 k7 H6 L6 e7; have e8 := H7.out.cell 3 (.int .i64 p.f1.f3) rfl)
        go_wp2_with (go_at_call 73; refine (writer_numberW.calls w b l7 2 p.f1.f3 _ H7.out.1 (by decide) (by omega)).mono ?_; rintro e w8 ⟨rfl, l8, E8, m8, s8, k8⟩; have H8 := Aside0.mk (H7.out.step s8 k8); have L8 : l8.length ≤ 4000012297 := (by rw [m8, numP2_length]; omega); clear m8 s8 k8 H7 L7 e8)
        refine start_ (n := 7) (S := fun w' => CS w W5 b qb (Obj.cells #[.string p.f1.f0, .string p.f1.f1, .int .i64 p.f1.f2, .int .i64 p.f1.f3, .bool p.f1.f4, .slice A6 p.f1.f5.length c6] 92 (0, 0)) l8 w' ∧ w'.cell? ⟨qb, 4, none⟩ = some (.bool p.f1.f4)) (ds := [6]) #[false, false, false, false, false, false, false] (by kernel_rfl) rfl rfl ⟨(H8.out.below (below_drew1 (Below.refl _ _))), ((H8.out.below (below_drew1 (Below.refl _ _))).cell 4 (.bool p.f1.f4) rfl)⟩ (fun hHeld => ?_)
        refine pure_ (i := 0) (N := some 56) (v := ?_) (a' := ?_) #[true, false, false, false, false, false, false] rfl rfl (by kernel_rfl) (fun _ _ _ h => h) (Or.inl ⟨by rfl, ?_⟩) ?_ ?_
        rotate_left
        · intro w'
          go_simp
          with_reducible rfl
        rotate_left
        · simp only [Act.put, List.setIfInBounds_toArray, List.set_cons_zero, List.set_cons_succ, i64_w, i32_w]
          rfl
        refine pure_ (i := 1) (N := some 57) (v := ?_) (a' := ?_) #[true, true, false, false, false, false, false] rfl rfl (by kernel_rfl) (fun _ _ _ h => h) (Or.inl ⟨by rfl, ?_⟩) ?_ ?_
        rotate_left
        · intro w'
          go_simp
          with_reducible rfl
        rotate_left
        · simp only [Act.put, List.setIfInBounds_toArray, List.set_cons_zero, List.set_cons_succ, i64_w, i32_w]
          rfl
        refine pure_ (i := 2) (N := some 58) (v := ?_) (a' := ?_) #[true, true, true, false, false, false, false] rfl rfl (by kernel_rfl) (fun _ _ _ h => h) (Or.inl ⟨by rfl, ?_⟩) ?_ ?_
        rotate_left
        · intro w'
          go_simp
          with_reducible rfl
        rotate_left
        · simp only [Act.put, List.setIfInBounds_toArray, List.set_cons_zero, List.set_cons_succ, i64_w, i32_w]
          rfl
        refine pure_ (i := 3) (N := some 59) (v := ?_) (a' := ?_) #[true, true, true, true, false, false, false] rfl rfl (by kernel_rfl) (fun _ _ _ h => h) (Or.inl ⟨by rfl, ?_⟩) ?_ ?_
        rotate_left
        · intro w'
          go_simp
          with_reducible rfl
        rotate_left
        · simp only [Act.put, List.setIfInBounds_toArray, List.set_cons_zero, List.set_cons_succ, i64_w, i32_w]
          rfl
        refine take_ (i := 4) (N := some 60) (v := ?_) (a' := ?_) #[true, true, true, true, true, false, false] rfl rfl (by kernel_rfl) (fun _ _ _ h => h) (Or.inl ⟨by rfl, ?_⟩) hHeld ?_ ?_
        rotate_left
        · rintro w' ⟨s0, s1⟩
          go_simp
          with_reducible rfl
        rotate_left
        · simp only [Act.put, List.setIfInBounds_toArray, List.set_cons_zero, List.set_cons_succ, i64_w, i32_w]
          rfl
        refine one_ (i := 5) (N := some 61) #[true, true, true, true, true, true, false] rfl rfl (by kernel_rfl) (by decide) (fun K hK => ?_)
        refine goes_ Tryz.func76 (by kernel_rfl) rfl #[.bool p.f1.f4] (by rfl) rfl rfl (by simp only [List.map_toArray, List.map_cons, List.map_nil]; rfl) ?_
        with_reducible refine (cFlag p.f1.f4 _).mono ?_
        rintro e w8 ⟨rfl, hb⟩
        refine ⟨_, rfl, ?_⟩
        refine hK.out _ _ ⟨hHeld.1.below hb, cell_stays hb hHeld.2⟩ (fun hNow => ?_)
        clear hK K hHeld
        have hHeld := hNow
        clear hNow
        refine norm_ (a' := ?_) ?_ ?_
        rotate_left
        · show Act.put _ (some 61) _ = _
          simp only [Act.put, List.setIfInBounds_toArray, List.set_cons_zero, List.set_cons_succ, i64_w, i32_w]
          rfl
        refine last_ (i := 6) (N := some 62) #[true, true, true, true, true, true, true] rfl rfl (by kernel_rfl) (by decide) (fun K hK => ?_)
        refine goes_ Tryz.func75 (by kernel_rfl) rfl #[.pointer (some ⟨b, 0, none⟩), .string (tx (flagB p.f1.f4))] (by rfl) rfl rfl (by simp only [List.map_toArray, List.map_cons, List.map_nil]; rfl) ?_
        with_reducible refine (wWrite w b l8 (flagB p.f1.f4) _ hHeld.1.ws (by rw [flagB_length]; omega)).mono ?_
        rintro e w9 ⟨rfl, hws, hk9⟩
        refine ⟨_, rfl, ?_⟩
        have H9 := Aside0.mk (hHeld.1.step hws hk9)
        clear hws hk9
        refine hK.out _ _ ?_
        clear hK K
        refine norm_ (a' := ?_) ?_ ?_
        rotate_left
        · show Act.put _ (some 62) _ = _
          simp only [Act.put, List.setIfInBounds_toArray, List.set_cons_zero, List.set_cons_succ, i64_w, i32_w]
          rfl
        refine done_ (by kernel_rfl) ?_
        clear hHeld H8
        obtain ⟨l9, E9⟩ : ∃ l9, Aside0 (l9 = l8 ++ flagB p.f1.f4) := ⟨_, ⟨rfl⟩⟩
        rw [← E9.out] at H9
        have L9 : l9.length ≤ 4000012298 := by rw [E9.out, List.length_append, flagB_length]; omega
        clear L8
        have e10 := H9.out.cell 5 (.slice A6 p.f1.f5.length c6) rfl
        go_wp2_with (go_at_call 73; (first | refine (writer_number.calls w b l9 1 p.f1.f5.length _ H9.out.1 (by decide) (by omega)).mono ?_ | refine (writer_numberW.calls w b l9 1 p.f1.f5.length _ H9.out.1 (by decide) (by omega)).mono ?_); rintro e w10 ⟨rfl, l10, E10, m10, s10, k10⟩; have H10 := Aside0.mk (H9.out.step s10 k10); have L10 : l10.length ≤ 4000012299 := (by rw [m10, numP1_length]; omega); clear m10 s10 k10 H9 e10 L9; have e11 := H10.out.cell 5 (.slice A6 p.f1.f5.length c6) rfl)
        clear e11
        have H11 := Aside0.mk H10.out.1
        clear H10
        go_loopw [72] (fun v72 wr => ∃ i : Nat, v72 = .int .i64 (i : Int) ∧ i ≤ p.f1.f5.length ∧ Aside0 (WS w b (l10 ++ contsB (p.f1.f5.take i)) wr)) (fun v72 _ => p.f1.f5.length - (intOf v72).toNat)
        case atStart => exact ⟨0, rfl, Nat.zero_le _, ⟨by simpa [contsB] using H11.out⟩⟩
        case round =>
          clear H11
          obtain ⟨i, rfl, hi, HX⟩ := hrel
          have HP := Aside0.mk (contsB_small (l := p.f1.f5.take i) (fun c hc => HS.out.2 c (List.mem_of_mem_take hc)))
          by_cases hlu : i < p.f1.f5.length
          · have hlu2 : (i : Int) < (p.f1.f5.length : Int) := by omega
            have hi0 : (0 : Int) ≤ (i : Int) := by omega
            obtain ⟨ad2, A2, c2, A3, c3, A7, c7, ea, q0, q1, q2, q3, q4, q5, q6, n2, g2, n3, g3, n7, g7⟩ := at_T104 GC.out (i : Int) hi0 hlu2
            subst ea
            rw [Int.toNat_natCast] at q0 q1 q2 q3 q4 q5 q6
            replace q0 := cell_stays HX.out.1 q0
            replace q1 := cell_stays HX.out.1 q1
            replace q2 := cell_stays HX.out.1 q2
            replace q3 := cell_stays HX.out.1 q3
            replace q4 := cell_stays HX.out.1 q4
            replace q5 := cell_stays HX.out.1 q5
            replace q6 := cell_stays HX.out.1 q6
            have HF := Aside0.mk (contsB_step p.f1.f5 i hlu)
            have HSC := Aside0.mk (show SmallC (rd_T104 p.f1.f5 (i : Int)) from by rw [show rd_T104 p.f1.f5 (i : Int) = p.f1.f5[i] from by simp [rd_T104, List.getD, List.getElem?_eq_getElem hlu]]; exact HS.out.2 _ (List.getElem_mem hlu))
            generalize rd_T104 p.f1.f5 (i : Int) = x at q0 q1 q2 q3 q4 q5 q6 n2 g2 n3 g3 n7 g7 HF HSC
            have HL := Aside0.mk (show (l10 ++ contsB (p.f1.f5.take i)).length ≤ 100000000000000 from by have := HP.out; rw [List.length_take] at this; rw [List.length_append]; omega)
            have HG := Aside0.mk (And.intro g2 (And.intro g3 g7))
            clear g2 g3 g7 n2 n3 n7 HP L10
            have cW := writer_container.calls w b (l10 ++ contsB (p.f1.f5.take i)) x A2 A3 A7 c2 c3 c7 _ (HX.out.below (below_alloc (Below.refl _ _) (.cells #[.string x.f0, .string x.f1, .slice A2 x.f2.length c2, .slice A3 x.f3.length c3, .int .i64 x.f4, .int .i64 x.f5, .slice A7 x.f6.length c7] 104)))
              (fun w' hb => Kd.C_below HG.out.1 hb) (fun w' hb => Kd.C_below HG.out.2.1 hb) (fun w' hb => Kd.C_below HG.out.2.2 hb) (by have := HSC.out.1; omega) (by have := HSC.out.2.1; omega) (by have := HSC.out.2.2; omega) HL.out
            go_wp2_with (go_at_call 77; (with_reducible refine cW.mono ?_); rintro e w12 ⟨rfl, l12, E12, m12, s12, k12⟩; have H12 := Aside0.mk s12; clear m12 s12 k12 cW HX q0 q1 q2 q3 q4 q5 q6 HL HG)
            have hw1 : wrap64 ((i : Int) + 1) = ((i + 1 : Nat) : Int) := by unfold wrap64; omega
            go_roundw
            case rel => exact ⟨i + 1, by simp [hw1], hlu, ⟨by rw [HF.out, ← List.append_assoc, ← E12.out]; exact H12.out⟩⟩
            case measure => simp [intOf, hw1]; omega
          · have hlu7 : ¬ (i : Int) < (p.f1.f5.length : Int) := by omega
            have HY := Aside0.mk (show p.f1.f5.take i = p.f1.f5 from List.take_of_length_le (by omega))
            rw [HY.out] at HX
            clear HP HY
            go_wp2_with fail
            have hw1 : wrap64 ((j : Int) + 1) = ((j + 1 : Nat) : Int) := by unfold wrap64; omega
            go_roundw
            case rel =>
              refine ⟨j + 1, by simp [hw1], hlt, ⟨?_⟩⟩
              have hq := HX.out
              rw [E10.out, E9.out, E8.out, E7.out, E6.out, HA.out] at hq
              rw [HE5.out]
              unfold podB
              simpa only [List.append_assoc] using hq
            case measure => simp [intOf, hw1]; omega
      · have hlt7 : ¬ (j : Int) < (l.length : Int) := by omega
        have HY := Aside0.mk (show l.take j = l from List.take_of_length_le (by omega))
        rw [HY.out] at HX
        have HQ := Aside0.mk (show l4 ++ podsB l = stateB sq l from by rw [E4.out, E3.out]; unfold stateB; simp only [List.nil_append, List.append_assoc])
        rw [HQ.out] at HX
        clear HP HY
        have HNE := Aside0.mk (show stateB sq l ≠ [] from by unfold stateB numP be8 be4; simp)
        go_wp2_with (go_at_call 78; refine (String.calls bld167 w.heap.size b (stateB sq l) _ HX.out.2 HNE.out).mono ?_; rintro e w9 ⟨rfl, hb⟩; have HBF := Aside0.mk (HX.out.1.trans hb); clear hb)
        go_ret2
        exact ⟨by rw [HE.out, HE0.out]; rfl, HBF.out⟩
  · have HE := Aside0.mk (show encB sq l = [] from by unfold encB; rw [if_neg h0])
    have hz0 : (stateP l == 0) = false := beq_eq_false_iff_ne.2 h0
    have hz1 : (stateP l != 0) = true := bne_iff_ne.2 h0
    generalize stateP l = r at cC hz0 hz1
    clear h0 hl
    go_enter Tryz.func35, Tryz.ntmps35
    go_wp2_with (go_at_call 63; refine cC.mono ?_; rintro e w1 ⟨rfl, hb⟩; have HB1 := Aside0.mk (below_step HBA.out hb); clear hb cC HBX HBA)
    go_ret2
    exact ⟨by rw [HE.out]; rfl, HB1.out⟩
end Go.Proofs.YtlmeelmjodjfpaaGreatDoor.PB
end
section
namespace Go.Proofs.YtlmeelmjodjfpaaGreatDoor.PB
open Go.RowKit Go.Maps Go.Proofs.YtlmeelmjodjfpaaGreatDoorW.PrintWords Go.Proofs.YtlmeelmjodjfpaaGreatDoorW.PrintLast Go.Proofs.YtlmeelmjodjfpaaGreatDoorW.PrintMore
open Fr (tx tx_list tx_size tx_app tx_of)
set_option linter.unusedVariables false
set_option linter.unusedSimpArgs false
set_option maxHeartbeats 1000000
set_option maxRecDepth 100000
def TrueP (w : World) (e : Ending) (w' : World) : Prop := e = .returned (.bool true) ∧ Below w.heap.size w w'
theorem awake13.calls (w : World) : Calls Tryz.prog 83 #[] w (TrueP w) := by
  have c1 : ∀ W, Calls Tryz.prog 95 #[.string ⟨#[97, 45, 49]⟩] W fun e w' => e = .returned (.bool true) ∧ Below W.heap.size W w' := fun W => by
    have := cLabel ⟨#[97, 45, 49]⟩ W (by decide)
    rwa [show labelP ⟨#[97, 45, 49]⟩ = true from by decide +kernel] at this
  have c2 : ∀ W, Calls Tryz.prog 95 #[.string ⟨#[45, 97]⟩] W fun e w' => e = .returned (.bool false) ∧ Below W.heap.size W w' := fun W => by
    have := cLabel ⟨#[45, 97]⟩ W (by decide)
    rwa [show labelP ⟨#[45, 97]⟩ = false from by decide +kernel] at this
  have c3 : ∀ W, Calls Tryz.prog 91 #[.string ⟨#[97, 46, 98, 45, 99]⟩] W fun e w' => e = .returned (.bool true) ∧ Below W.heap.size W w' := fun W => by
    have := cName ⟨#[97, 46, 98, 45, 99]⟩ W (by decide)
    rwa [show nameP ⟨#[97, 46, 98, 45, 99]⟩ = true from by decide +kernel] at this
  have c4 : ∀ W, Calls Tryz.prog 110 #[.string ⟨#[95, 88]⟩] W fun e w' => e = .returned (.bool true) ∧ Below W.heap.size W w' := fun W => by
    have := cVar ⟨#[95, 88]⟩ W (by decide)
    rwa [show varP ⟨#[95, 88]⟩ = true from by decide +kernel] at this
  have HB := Aside0.mk (Below.refl w.heap.size w)
  go_enter Tryz.func83, Tryz.ntmps83
  go_wp2_with (first | (go_at_call 95; (with_reducible refine (c1 _).mono ?_); rintro e w1 ⟨rfl, hb⟩; replace HB := Aside0.mk (below_step HB.out hb); clear hb) | (go_at_call 95; (with_reducible refine (c2 _).mono ?_); rintro e w2 ⟨rfl, hb⟩; replace HB := Aside0.mk (below_step HB.out hb); clear hb) | (go_at_call 91; (with_reducible refine (c3 _).mono ?_); rintro e w3 ⟨rfl, hb⟩; replace HB := Aside0.mk (below_step HB.out hb); clear hb) | (go_at_call 110; (with_reducible refine (c4 _).mono ?_); rintro e w4 ⟨rfl, hb⟩; replace HB := Aside0.mk (below_step HB.out hb); clear hb))
  go_ret
  exact ⟨rfl, HB.out⟩
theorem ckone_Check0.calls (sq : Int) (w : World) : Calls Tryz.prog 48 #[.agg #[.int .u32 sq, .slice none 0 0]] w fun e w' => e = .returned (.int .i64 0) ∧ Below w.heap.size w w' := by
  have HB := Aside0.mk (below_alloc (Below.refl w.heap.size w) (.cells #[.int .u32 sq, .slice none 0 0] 52))
  go_enter Tryz.func48, Tryz.ntmps48
  go_wp2_with fail
  refine wp_loop_rounds 1 ?_
  rw [rounds_succ]
  go_wp2_with fail
  go_ret
  exact ⟨rfl, HB.out⟩
theorem cktwo_Check0.calls (sq : Int) (w : World) : Calls Tryz.prog 53 #[.agg #[.int .u64 sq, .slice none 0 0]] w fun e w' => e = .returned (.int .i64 0) ∧ Below w.heap.size w w' := by
  have HB := Aside0.mk (below_alloc (Below.refl w.heap.size w) (.cells #[.int .u64 sq, .slice none 0 0] 59))
  go_enter Tryz.func53, Tryz.ntmps53
  go_wp2_with fail
  refine wp_loop_rounds 1 ?_
  rw [rounds_succ]
  go_wp2_with fail
  go_ret
  exact ⟨rfl, HB.out⟩
end Go.Proofs.YtlmeelmjodjfpaaGreatDoor.PB
end
section
namespace Go.Proofs.YtlmeelmjodjfpaaGreatDoor.PB
open Go.RowKit Go.Maps Go.Proofs.YtlmeelmjodjfpaaGreatDoorW.PrintWords Go.Proofs.YtlmeelmjodjfpaaGreatDoorW.PrintLast Go.Proofs.YtlmeelmjodjfpaaGreatDoorW.PrintMore
open Fr (tx tx_list tx_size tx_app tx_of be1 be2 be4)
set_option linter.unusedVariables false
set_option linter.unusedSimpArgs false
set_option maxHeartbeats 1000000
set_option maxRecDepth 100000
theorem bld_new {T : TypeId} {w0 w : World} (h : Below w0.heap.size w0 w) : Lib.IsBuilderF T 5 w0.heap.size w.heap.size [] (w.alloc (.cells #[.pointer none, .slice none 0 0] T)) :=
  .inl ⟨h.size, .slice none 0 0, World.alloc_heap_new w _, ⟨rfl, .inl ⟨rfl, rfl⟩⟩, by simp [Value.ownBlock]⟩
theorem cPut (n v : Nat) (hn : n = 1 ∨ n = 2 ∨ n = 4 ∨ n = 8) (W : World) : Calls Tryz.prog 79 #[.int .i64 (n : Int), .int .u64 (v : Int)] W fun e w' => e = .returned (.string (tx (numP n v))) ∧ Below W.heap.size W w' := pack_Put.calls 10 (n : Int) (v : Int) _ W (put_num n v hn)
theorem ckone_Encode0.calls (w : World) : Calls Tryz.prog 82 #[.agg #[.int .u32 1, .slice none 0 0]] w fun e w' => e = .returned (.tuple #[.string ⟨#[0, 0, 0, 1, 0, 0]⟩, .int .i64 0]) ∧ Below w.heap.size w w' := by
  have HX := Aside0.mk (blk_new w (.cells #[.int .u32 1, .slice none 0 0] 52))
  have HB := Aside0.mk (below_alloc (Below.refl w.heap.size w) (.cells #[.int .u32 1, .slice none 0 0] 52))
  have q1 : ∀ W, Calls Tryz.prog 79 #[.int .i64 4, .int .u64 1] W _ := fun W => cPut 4 1 (by decide) W
  have q2 : ∀ W, Calls Tryz.prog 79 #[.int .i64 2, .int .u64 0] W _ := fun W => cPut 2 0 (by decide) W
  have s1 : (tx (numP 4 1)).size = 4 := rfl
  have s2 : (tx (numP 2 0)).size = 2 := rfl
  go_enter Tryz.func82, Tryz.ntmps82
  go_wp2_with (go_at_call 48; refine (ckone_Check0.calls 1 _).mono ?_; rintro e w1 ⟨rfl, hb⟩; have HB1 := Aside0.mk (below_step HB.out hb); have HX1 := Aside0.mk (blk_below HX.out hb); clear hb HB HX; have HN := Aside0.mk (blk_lt HX1.out); have HBB := Aside0.mk (bld_new (T := 165) HB1.out); replace HB1 := Aside0.mk (below_alloc HB1.out (.cells #[.pointer none, .slice none 0 0] 165)); replace HX1 := Aside0.mk (blk_alloc HX1.out (.cells #[.pointer none, .slice none 0 0] 165)))
  generalize w1.alloc (.cells #[.pointer none, .slice none 0 0] 165) = W2 at HB1 HX1 HBB ⊢
  generalize w1.heap.size = b at HBB HN ⊢
  refine start_ (n := 11) (S := fun w' => w'.cell? ⟨w.heap.size, 0, none⟩ = some (.int .u32 1) ∧ w'.cell? ⟨w.heap.size, 1, none⟩ = some (.slice none 0 0) ∧ Lib.IsBuilderF 165 5 w.heap.size b [] w' ∧ Below w.heap.size w w' ∧ w'.heap[w.heap.size]? = some (.cells #[.int .u32 1, .slice none 0 0] 52 (0, 0))) (ds := [10]) #[false, false, false, false, false, false, false, false, false, false, false] (by kernel_rfl) rfl rfl ⟨(show W2.drew.cell? ⟨w.heap.size, 0, none⟩ = _ from (blk_cell HX1.out 0).trans rfl), (show W2.drew.cell? ⟨w.heap.size, 1, none⟩ = _ from (blk_cell HX1.out 1).trans rfl), (IsB_below HBB.out (below_drew1 (Below.refl _ _))), (below_drew1 HB1.out), (show W2.drew.heap[w.heap.size]? = _ from HX1.out)⟩ (fun hHeld => ?_)
  refine pure_ (i := 0) (N := some 17) (v := ?_) (a' := ?_) #[true, false, false, false, false, false, false, false, false, false, false] rfl rfl (by kernel_rfl) (fun _ _ _ h => h) (Or.inl ⟨by rfl, ?_⟩) ?_ ?_
  rotate_left
  · intro w'
    go_simp
    with_reducible rfl
  rotate_left
  · simp only [Act.put, List.setIfInBounds_toArray, List.set_cons_zero, List.set_cons_succ, i64_w, i32_w]
    rfl
  refine pure_ (i := 4) (N := some 21) (v := ?_) (a' := ?_) #[true, false, false, false, true, false, false, false, false, false, false] rfl rfl (by kernel_rfl) (fun _ _ _ h => h) (Or.inl ⟨by rfl, ?_⟩) ?_ ?_
  rotate_left
  · intro w'
    go_simp
    with_reducible rfl
  rotate_left
  · simp only [Act.put, List.setIfInBounds_toArray, List.set_cons_zero, List.set_cons_succ, i64_w, i32_w]
    rfl
  refine take_ (i := 1) (N := some 18) (v := ?_) (a' := ?_) #[true, true, false, false, true, false, false, false, false, false, false] rfl rfl (by kernel_rfl) (fun _ _ _ h => h) (Or.inl ⟨by rfl, ?_⟩) hHeld ?_ ?_
  rotate_left
  · rintro w' ⟨s0, s1, s2, s3, s4⟩
    go_simp
    with_reducible rfl
  rotate_left
  · simp only [Act.put, List.setIfInBounds_toArray, List.set_cons_zero, List.set_cons_succ, i64_w, i32_w]
    rfl
  refine pure_ (i := 2) (N := some 19) (v := ?_) (a' := ?_) #[true, true, true, false, true, false, false, false, false, false, false] rfl rfl (by kernel_rfl) (fun _ _ _ h => h) (Or.inl ⟨by rfl, ?_⟩) ?_ ?_
  rotate_left
  · intro w'
    go_simp
    with_reducible rfl
  rotate_left
  · simp only [Act.put, List.setIfInBounds_toArray, List.set_cons_zero, List.set_cons_succ, i64_w, i32_w]
    rfl
  refine take_ (i := 5) (N := some 22) (v := ?_) (a' := ?_) #[true, true, true, false, true, true, false, false, false, false, false] rfl rfl (by kernel_rfl) (fun _ _ _ h => h) (Or.inl ⟨by rfl, ?_⟩) hHeld ?_ ?_
  rotate_left
  · rintro w' ⟨s0, s1, s2, s3, s4⟩
    go_simp
    with_reducible rfl
  rotate_left
  · simp only [Act.put, List.setIfInBounds_toArray, List.set_cons_zero, List.set_cons_succ, i64_w, i32_w]
    rfl
  refine pure_ (i := 6) (N := some 23) (v := ?_) (a' := ?_) #[true, true, true, false, true, true, true, false, false, false, false] rfl rfl (by kernel_rfl) (fun _ _ _ h => h) (Or.inl ⟨by rfl, ?_⟩) ?_ ?_
  rotate_left
  · intro w'
    go_simp
    with_reducible rfl
  rotate_left
  · simp only [Act.put, List.setIfInBounds_toArray, List.set_cons_zero, List.set_cons_succ, i64_w, i32_w]
    rfl
  refine pure_ (i := 7) (N := some 24) (v := ?_) (a' := ?_) #[true, true, true, false, true, true, true, true, false, false, false] rfl rfl (by kernel_rfl) (fun _ _ _ h => h) (Or.inl ⟨by rfl, ?_⟩) ?_ ?_
  rotate_left
  · intro w'
    go_simp
    with_reducible rfl
  rotate_left
  · simp only [Act.put, List.setIfInBounds_toArray, List.set_cons_zero, List.set_cons_succ, i64_w, i32_w]
    rfl
  refine one_ (i := 3) (N := some 20) #[true, true, true, true, true, true, true, true, false, false, false] rfl rfl (by kernel_rfl) (by decide) (fun K hK => ?_)
  refine goes_ Tryz.func79 (by kernel_rfl) rfl #[.int .i64 4, .int .u64 1] (by rfl) rfl rfl (by simp only [List.map_toArray, List.map_cons, List.map_nil]; rfl) ?_
  with_reducible refine (q1 _).mono ?_
  rintro e w3 ⟨rfl, hb⟩
  refine ⟨_, rfl, ?_⟩
  refine hK.out _ _ ⟨cell_stays hb hHeld.1, cell_stays hb hHeld.2.1, IsB_below hHeld.2.2.1 hb, below_step hHeld.2.2.2.1 hb, blk_below hHeld.2.2.2.2 hb⟩ (fun hNow => ?_)
  clear hK K hHeld
  have hHeld := hNow
  clear hNow
  refine norm_ (a' := ?_) ?_ ?_
  rotate_left
  · show Act.put _ (some 20) _ = _
    simp only [Act.put, List.setIfInBounds_toArray, List.set_cons_zero, List.set_cons_succ, i64_w, i32_w]
    rfl
  refine one_ (i := 8) (N := some 25) #[true, true, true, true, true, true, true, true, true, false, false] rfl rfl (by kernel_rfl) (by decide) (fun K hK => ?_)
  refine goes_ Tryz.func79 (by kernel_rfl) rfl #[.int .i64 2, .int .u64 0] (by rfl) rfl rfl (by simp only [List.map_toArray, List.map_cons, List.map_nil]; rfl) ?_
  with_reducible refine (q2 _).mono ?_
  rintro e w4 ⟨rfl, hb⟩
  refine ⟨_, rfl, ?_⟩
  refine hK.out _ _ ⟨cell_stays hb hHeld.1, cell_stays hb hHeld.2.1, IsB_below hHeld.2.2.1 hb, below_step hHeld.2.2.2.1 hb, blk_below hHeld.2.2.2.2 hb⟩ (fun hNow => ?_)
  clear hK K hHeld
  have hHeld := hNow
  clear hNow
  refine norm_ (a' := ?_) ?_ ?_
  rotate_left
  · show Act.put _ (some 25) _ = _
    simp only [Act.put, List.setIfInBounds_toArray, List.set_cons_zero, List.set_cons_succ, i64_w, i32_w]
    rfl
  refine pure_ (i := 9) (N := some 26) (v := ?_) (a' := ?_) #[true, true, true, true, true, true, true, true, true, true, false] rfl rfl (by kernel_rfl) (fun _ _ _ h => h) (Or.inl ⟨by rfl, ?_⟩) ?_ ?_
  rotate_left
  · intro w'
    go_simp
    with_reducible rfl
  rotate_left
  · simp only [Act.put, List.setIfInBounds_toArray, List.set_cons_zero, List.set_cons_succ, i64_w, i32_w]
    rfl
  refine last_ (i := 10) (N := some 27) #[true, true, true, true, true, true, true, true, true, true, true] rfl rfl (by kernel_rfl) (by decide) (fun K hK => ?_)
  refine goes_ Tryz.func75 (by kernel_rfl) rfl #[.pointer (some ⟨b, 0, none⟩), .string (tx (numP 4 1) ++ tx (numP 2 0))] (by rfl) rfl rfl (by simp only [List.map_toArray, List.map_cons, List.map_nil]; rfl) ?_
  with_reducible refine (WriteString.calls bld165 w.heap.size b [] (tx (numP 4 1) ++ tx (numP 2 0)) _ hHeld.2.2.1 (by decide) hHeld.2.2.2.1.size).mono ?_
  rintro e w5 ⟨rfl, h1, h2, h3⟩
  refine ⟨_, rfl, ?_⟩
  have H5 := Aside0.mk (And.intro h1 (hHeld.2.2.2.1.trans h2))
  have hb5 := KO.keep h3 hHeld.2.2.2.2 (Nat.ne_of_lt HN.out) (by decide)
  have hx5 : w5.cell? ⟨w.heap.size, 1, none⟩ = some (.slice none 0 0) := (blk_cell hb5 1).trans rfl
  clear h1 h2 h3
  refine hK.out _ _ ?_
  clear hK K
  refine norm_ (a' := ?_) ?_ ?_
  rotate_left
  · show Act.put _ (some 27) _ = _
    simp only [Act.put, List.setIfInBounds_toArray, List.set_cons_zero, List.set_cons_succ, i64_w, i32_w]
    rfl
  refine done_ (by kernel_rfl) ?_
  clear hHeld q1 q2 s1 s2 hb5
  go_wp2_with fail
  refine wp_loop_rounds 1 ?_
  rw [rounds_succ]
  go_wp2_with (go_at_call 78; refine (String.calls bld165 w.heap.size b (numP 4 1 ++ numP 2 0) _ (.inr H5.out.1) (by decide)).mono ?_; rintro e w6 ⟨rfl, hb⟩; have H6 := Aside0.mk (H5.out.2.trans hb); clear hb)
  go_ret2
  exact ⟨rfl, H6.out⟩
theorem cktwo_Encode0.calls (w : World) : Calls Tryz.prog 84 #[.agg #[.int .u64 1, .slice none 0 0]] w fun e w' => e = .returned (.tuple #[.string ⟨#[0, 0, 0, 0, 0, 0, 0, 1, 0, 0]⟩, .int .i64 0]) ∧ Below w.heap.size w w' := by
  have HX := Aside0.mk (blk_new w (.cells #[.int .u64 1, .slice none 0 0] 59))
  have HB := Aside0.mk (below_alloc (Below.refl w.heap.size w) (.cells #[.int .u64 1, .slice none 0 0] 59))
  have q1 : ∀ W, Calls Tryz.prog 79 #[.int .i64 8, .int .u64 1] W _ := fun W => cPut 8 1 (by decide) W
  have q2 : ∀ W, Calls Tryz.prog 79 #[.int .i64 2, .int .u64 0] W _ := fun W => cPut 2 0 (by decide) W
  have s1 : (tx (numP 8 1)).size = 8 := rfl
  have s2 : (tx (numP 2 0)).size = 2 := rfl
  go_enter Tryz.func84, Tryz.ntmps84
  go_wp2_with (go_at_call 53; refine (cktwo_Check0.calls 1 _).mono ?_; rintro e w1 ⟨rfl, hb⟩; have HB1 := Aside0.mk (below_step HB.out hb); have HX1 := Aside0.mk (blk_below HX.out hb); clear hb HB HX; have HN := Aside0.mk (blk_lt HX1.out); have HBB := Aside0.mk (bld_new (T := 165) HB1.out); replace HB1 := Aside0.mk (below_alloc HB1.out (.cells #[.pointer none, .slice none 0 0] 165)); replace HX1 := Aside0.mk (blk_alloc HX1.out (.cells #[.pointer none, .slice none 0 0] 165)))
  generalize w1.alloc (.cells #[.pointer none, .slice none 0 0] 165) = W2 at HB1 HX1 HBB ⊢
  generalize w1.heap.size = b at HBB HN ⊢
  refine start_ (n := 10) (S := fun w' => w'.cell? ⟨w.heap.size, 0, none⟩ = some (.int .u64 1) ∧ w'.cell? ⟨w.heap.size, 1, none⟩ = some (.slice none 0 0) ∧ Lib.IsBuilderF 165 5 w.heap.size b [] w' ∧ Below w.heap.size w w' ∧ w'.heap[w.heap.size]? = some (.cells #[.int .u64 1, .slice none 0 0] 59 (0, 0))) (ds := [9]) #[false, false, false, false, false, false, false, false, false, false] (by kernel_rfl) rfl rfl ⟨(show W2.drew.cell? ⟨w.heap.size, 0, none⟩ = _ from (blk_cell HX1.out 0).trans rfl), (show W2.drew.cell? ⟨w.heap.size, 1, none⟩ = _ from (blk_cell HX1.out 1).trans rfl), (IsB_below HBB.out (below_drew1 (Below.refl _ _))), (below_drew1 HB1.out), (show W2.drew.heap[w.heap.size]? = _ from HX1.out)⟩ (fun hHeld => ?_)
  refine pure_ (i := 0) (N := some 17) (v := ?_) (a' := ?_) #[true, false, false, false, false, false, false, false, false, false] rfl rfl (by kernel_rfl) (fun _ _ _ h => h) (Or.inl ⟨by rfl, ?_⟩) ?_ ?_
  rotate_left
  · intro w'
    go_simp
    with_reducible rfl
  rotate_left
  · simp only [Act.put, List.setIfInBounds_toArray, List.set_cons_zero, List.set_cons_succ, i64_w, i32_w]
    rfl
  refine pure_ (i := 3) (N := some 20) (v := ?_) (a' := ?_) #[true, false, false, true, false, false, false, false, false, false] rfl rfl (by kernel_rfl) (fun _ _ _ h => h) (Or.inl ⟨by rfl, ?_⟩) ?_ ?_
  rotate_left
  · intro w'
    go_simp
    with_reducible rfl
  rotate_left
  · simp only [Act.put, List.setIfInBounds_toArray, List.set_cons_zero, List.set_cons_succ, i64_w, i32_w]
    rfl
  refine take_ (i := 1) (N := some 18) (v := ?_) (a' := ?_) #[true, true, false, true, false, false, false, false, false, false] rfl rfl (by kernel_rfl) (fun _ _ _ h => h) (Or.inl ⟨by rfl, ?_⟩) hHeld ?_ ?_
  rotate_left
  · rintro w' ⟨s0, s1, s2, s3, s4⟩
    go_simp
    with_reducible rfl
  rotate_left
  · simp only [Act.put, List.setIfInBounds_toArray, List.set_cons_zero, List.set_cons_succ, i64_w, i32_w]
    rfl
  refine take_ (i := 4) (N := some 21) (v := ?_) (a' := ?_) #[true, true, false, true, true, false, false, false, false, false] rfl rfl (by kernel_rfl) (fun _ _ _ h => h) (Or.inl ⟨by rfl, ?_⟩) hHeld ?_ ?_
  rotate_left
  · rintro w' ⟨s0, s1, s2, s3, s4⟩
    go_simp
    with_reducible rfl
  rotate_left
  · simp only [Act.put, List.setIfInBounds_toArray, List.set_cons_zero, List.set_cons_succ, i64_w, i32_w]
    rfl
  refine pure_ (i := 5) (N := some 22) (v := ?_) (a' := ?_) #[true, true, false, true, true, true, false, false, false, false] rfl rfl (by kernel_rfl) (fun _ _ _ h => h) (Or.inl ⟨by rfl, ?_⟩) ?_ ?_
  rotate_left
  · intro w'
    go_simp
    with_reducible rfl
  rotate_left
  · simp only [Act.put, List.setIfInBounds_toArray, List.set_cons_zero, List.set_cons_succ, i64_w, i32_w]
    rfl
  refine pure_ (i := 6) (N := some 23) (v := ?_) (a' := ?_) #[true, true, false, true, true, true, true, false, false, false] rfl rfl (by kernel_rfl) (fun _ _ _ h => h) (Or.inl ⟨by rfl, ?_⟩) ?_ ?_
  rotate_left
  · intro w'
    go_simp
    with_reducible rfl
  rotate_left
  · simp only [Act.put, List.setIfInBounds_toArray, List.set_cons_zero, List.set_cons_succ, i64_w, i32_w]
    rfl
  refine one_ (i := 2) (N := some 19) #[true, true, true, true, true, true, true, false, false, false] rfl rfl (by kernel_rfl) (by decide) (fun K hK => ?_)
  refine goes_ Tryz.func79 (by kernel_rfl) rfl #[.int .i64 8, .int .u64 1] (by rfl) rfl rfl (by simp only [List.map_toArray, List.map_cons, List.map_nil]; rfl) ?_
  with_reducible refine (q1 _).mono ?_
  rintro e w3 ⟨rfl, hb⟩
  refine ⟨_, rfl, ?_⟩
  refine hK.out _ _ ⟨cell_stays hb hHeld.1, cell_stays hb hHeld.2.1, IsB_below hHeld.2.2.1 hb, below_step hHeld.2.2.2.1 hb, blk_below hHeld.2.2.2.2 hb⟩ (fun hNow => ?_)
  clear hK K hHeld
  have hHeld := hNow
  clear hNow
  refine norm_ (a' := ?_) ?_ ?_
  rotate_left
  · show Act.put _ (some 19) _ = _
    simp only [Act.put, List.setIfInBounds_toArray, List.set_cons_zero, List.set_cons_succ, i64_w, i32_w]
    rfl
  refine one_ (i := 7) (N := some 24) #[true, true, true, true, true, true, true, true, false, false] rfl rfl (by kernel_rfl) (by decide) (fun K hK => ?_)
  refine goes_ Tryz.func79 (by kernel_rfl) rfl #[.int .i64 2, .int .u64 0] (by rfl) rfl rfl (by simp only [List.map_toArray, List.map_cons, List.map_nil]; rfl) ?_
  with_reducible refine (q2 _).mono ?_
  rintro e w4 ⟨rfl, hb⟩
  refine ⟨_, rfl, ?_⟩
  refine hK.out _ _ ⟨cell_stays hb hHeld.1, cell_stays hb hHeld.2.1, IsB_below hHeld.2.2.1 hb, below_step hHeld.2.2.2.1 hb, blk_below hHeld.2.2.2.2 hb⟩ (fun hNow => ?_)
  clear hK K hHeld
  have hHeld := hNow
  clear hNow
  refine norm_ (a' := ?_) ?_ ?_
  rotate_left
  · show Act.put _ (some 24) _ = _
    simp only [Act.put, List.setIfInBounds_toArray, List.set_cons_zero, List.set_cons_succ, i64_w, i32_w]
    rfl
  refine pure_ (i := 8) (N := some 25) (v := ?_) (a' := ?_) #[true, true, true, true, true, true, true, true, true, false] rfl rfl (by kernel_rfl) (fun _ _ _ h => h) (Or.inl ⟨by rfl, ?_⟩) ?_ ?_
  rotate_left
  · intro w'
    go_simp
    with_reducible rfl
  rotate_left
  · simp only [Act.put, List.setIfInBounds_toArray, List.set_cons_zero, List.set_cons_succ, i64_w, i32_w]
    rfl
  refine last_ (i := 9) (N := some 26) #[true, true, true, true, true, true, true, true, true, true] rfl rfl (by kernel_rfl) (by decide) (fun K hK => ?_)
  refine goes_ Tryz.func75 (by kernel_rfl) rfl #[.pointer (some ⟨b, 0, none⟩), .string (tx (numP 8 1) ++ tx (numP 2 0))] (by rfl) rfl rfl (by simp only [List.map_toArray, List.map_cons, List.map_nil]; rfl) ?_
  with_reducible refine (WriteString.calls bld165 w.heap.size b [] (tx (numP 8 1) ++ tx (numP 2 0)) _ hHeld.2.2.1 (by decide) hHeld.2.2.2.1.size).mono ?_
  rintro e w5 ⟨rfl, h1, h2, h3⟩
  refine ⟨_, rfl, ?_⟩
  have H5 := Aside0.mk (And.intro h1 (hHeld.2.2.2.1.trans h2))
  have hb5 := KO.keep h3 hHeld.2.2.2.2 (Nat.ne_of_lt HN.out) (by decide)
  have hx5 : w5.cell? ⟨w.heap.size, 1, none⟩ = some (.slice none 0 0) := (blk_cell hb5 1).trans rfl
  clear h1 h2 h3
  refine hK.out _ _ ?_
  clear hK K
  refine norm_ (a' := ?_) ?_ ?_
  rotate_left
  · show Act.put _ (some 26) _ = _
    simp only [Act.put, List.setIfInBounds_toArray, List.set_cons_zero, List.set_cons_succ, i64_w, i32_w]
    rfl
  refine done_ (by kernel_rfl) ?_
  clear hHeld q1 q2 s1 s2 hb5
  go_wp2_with fail
  refine wp_loop_rounds 1 ?_
  rw [rounds_succ]
  go_wp2_with (go_at_call 78; refine (String.calls bld165 w.heap.size b (numP 8 1 ++ numP 2 0) _ (.inr H5.out.1) (by decide)).mono ?_; rintro e w6 ⟨rfl, hb⟩; have H6 := Aside0.mk (H5.out.2.trans hb); clear hb)
  go_ret2
  exact ⟨rfl, H6.out⟩
theorem awake17.calls (w : World) : Calls Tryz.prog 40 #[] w (TrueP w) := by
  have c0 := fun W => bosunlaw02_Awake.calls 20 true W (Fr.awake2 20 (by decide))
  have HB := Aside0.mk (Below.refl w.heap.size w)
  go_enter Tryz.func40, Tryz.ntmps40
  go_wp2_with (first | (go_at_call 82; (with_reducible refine (ckone_Encode0.calls _).mono ?_); rintro e w2 ⟨rfl, hb⟩; replace HB := Aside0.mk (below_step HB.out hb); clear hb) | (go_at_call 39; (with_reducible refine (c0 _).mono ?_); rintro e w3 ⟨rfl, hb⟩; replace HB := Aside0.mk (below_step HB.out hb); clear hb) | (go_at_call 83; (with_reducible refine (awake13.calls _).mono ?_); rintro e w4 ⟨rfl, hb⟩; replace HB := Aside0.mk (below_step HB.out hb); clear hb))
  go_ret
  exact ⟨rfl, HB.out⟩
theorem awake18.calls (w : World) : Calls Tryz.prog 41 #[] w (TrueP w) := by
  have HB := Aside0.mk (Below.refl w.heap.size w)
  go_enter Tryz.func41, Tryz.ntmps41
  go_wp2_with (first | (go_at_call 84; (with_reducible refine (cktwo_Encode0.calls _).mono ?_); rintro e w2 ⟨rfl, hb⟩; replace HB := Aside0.mk (below_step HB.out hb); clear hb) | (go_at_call 40; (with_reducible refine (awake17.calls _).mono ?_); rintro e w3 ⟨rfl, hb⟩; replace HB := Aside0.mk (below_step HB.out hb); clear hb))
  go_ret
  exact ⟨rfl, HB.out⟩
end Go.Proofs.YtlmeelmjodjfpaaGreatDoor.PB
end
section
namespace Go.Proofs.YtlmeelmjodjfpaaGreatDoor.Op
open Go.RowKit Go.Proofs.YtlmeelmjodjfpaaGreatDoor.PB Go.Proofs.YtlmeelmjodjfpaaGreatDoorW.PrintWords Go.Proofs.YtlmeelmjodjfpaaGreatDoorW.PrintLast
open Go.Proofs.YtlmeelmjodjfpaaGreatDoor Fr
theorem len_list (s : ByteArray) : s.data.toList.length = s.size := by rw [Array.length_toList]; rfl
/-- The number that bytes are, behind a number. -/
def numF (a : Nat) (l : List UInt8) : Nat := l.foldl (fun a b => a * 256 + b.toNat) a
def num (l : List UInt8) : Nat := numF 0 l
theorem numF_lt (l : List UInt8) : ∀ (a i : Nat), a < 256 ^ i → numF a l < 256 ^ (i + l.length) := by
  induction l with
  | nil => intro a i h; exact h
  | cons b l ih =>
    intro a i h
    have hb := b.toNat_lt
    have := ih (a * 256 + b.toNat) (i + 1) (by rw [Nat.pow_succ]; omega)
    rw [List.length_cons, show i + (l.length + 1) = i + 1 + l.length from by omega]
    exact this
theorem num_lt (l : List UInt8) : num l < 256 ^ l.length := by
  have := numF_lt l 0 0 (by decide)
  rwa [Nat.zero_add] at this
theorem or_byte (a i : Nat) (b : Int) (ha : a < 256 ^ i) (hi : i + 1 ≤ 8) (h0 : 0 ≤ b) (h1 : b ≤ 255) : Go.bits .or .u64 (IntKind.u64.wrap ((a : Int) * 256)) (IntKind.u64.wrap b) = ((a * 256 : Nat) : Int) + b := by
  have hp : 256 ^ i ≤ 256 ^ 7 := Nat.pow_le_pow_right (by decide) (by omega)
  have h7 : (256 : Nat) ^ 7 = 72057594037927936 := by decide
  have h56 : (2 : Nat) ^ 64 = 18446744073709551616 := by decide
  have h56' : (2 : Int) ^ 64 = 18446744073709551616 := by decide
  rw [show (a : Int) * 256 = ((a * 256 : Nat) : Int) from by omega, u64_nat _ (by omega), IntWalk.u64_in b (by omega)]
  refine bits_join .u64 64 (by decide) (fun n h0 h1 => IntWalk.u64_in n (by omega)) 8 _ _ (by omega) ?_ (by omega) h0 (by show b < 256; omega) (by omega)
  show ((a * 256 : Nat) : Int) % 256 = 0
  omega
theorem take_loop (x rest : ByteArray) (e : Int) (hx : x.size ≤ 8) (d : Nat) : ∀ (k i a : Nat), i + d = x.size → a < 256 ^ i →
    pack_Taker_Take.l0 (k + d + 1) x (a : Int) (x.size : Int) (i : Int) rest e = some (((numF a (x.data.toList.drop i) : Nat) : Int), rest, e) := by
  induction d with
  | zero =>
    intro k i a hi ha
    rw [pack_Taker_Take.l0, if_neg (by omega), List.drop_eq_nil_of_le (by rw [len_list]; omega)]
    rfl
  | succ d ih =>
    intro k i a hi ha
    have hlt : i < x.size := by omega
    have hb := bt_range x (i : Int)
    have hbl := Crc.bt_list x i hlt
    rw [show k + (d + 1) + 1 = (k + d + 1) + 1 from by omega, pack_Taker_Take.l0, if_pos (by omega), if_pos (by omega), if_pos (by omega), or_byte a i _ ha (by omega) hb.1 hb.2, hbl,
      w64 _ (by omega)]
    have h2 := (x.data.toList[i]'(by rw [len_list]; exact hlt)).toNat_lt
    rw [Crc.drop_cons x i hlt]
    have h3 := ih k (i + 1) (a * 256 + (x.data.toList[i]'(by rw [len_list]; exact hlt)).toNat) (by omega) (by rw [Nat.pow_succ]; omega)
    rw [show (((a * 256 + (x.data.toList[i]'(by rw [len_list]; exact hlt)).toNat : Nat)) : Int) = ((a * 256 : Nat) : Int) + (((x.data.toList[i]'(by rw [len_list]; exact hlt)).toNat : Nat) : Int) from by omega] at h3
    exact h3
theorem take_tells (n : Nat) (s : ByteArray) (k : Nat) (hn : n = 1 ∨ n = 2 ∨ n = 4 ∨ n = 8) (hs : n ≤ s.size) (hk : 20 ≤ k) :
    pack_Taker_Take.f k s 0 (n : Int) = some (((num (s.data.toList.take n) : Nat) : Int), s.extract n s.size, 0) := by
  obtain ⟨m, rfl⟩ : ∃ m, k = m + n + 1 + 2 := ⟨k - n - 3, by omega⟩
  have hz : pack_size.f (n : Int) = some true := by
    unfold pack_size.f
    rcases hn with rfl | rfl | rfl | rfl <;> rfl
  have hx : (s.extract 0 n).size = n := by rw [ByteArray.size_extract]; omega
  unfold pack_Taker_Take.f
  rw [if_pos rfl, hz]
  simp only [Option.bind_some]
  rw [show m + n + 1 + 2 = (m + n + 1 + 1) + 1 from rfl, pack_Taker_Take.j0, if_neg (by decide), pack_Taker_Take.j1]
  unfold pack_Taker_bytes.f
  rw [if_pos rfl, if_neg (by omega), if_pos (by omega), if_pos (by omega), Int.toNat_natCast]
  simp only [Option.bind_some]
  have h := take_loop (s.extract 0 n) (s.extract n s.size) 0 (by omega) n m 0 0 (by omega) (by decide)
  rw [if_pos trivial]
  rw [hx] at h
  rw [show ((s.extract 0 n).size : Int) = (n : Int) from by omega]
  rw [Crc.ext_take, List.drop_zero] at h
  exact h
theorem prefix_tells (a b : ByteArray) : strings_HasPrefix.f a b = some (decide (b.data.toList.length ≤ a.data.toList.length ∧ a.data.toList.take b.data.toList.length = b.data.toList)) := by
  unfold strings_HasPrefix.f stringslite_HasPrefix.f
  rw [len_list, len_list]
  by_cases h : b.size ≤ a.size
  · rw [if_pos (by omega), if_pos (by omega), if_pos (by omega), Int.toNat_natCast, Go.ByteArray.toList_eq, Go.ByteArray.toList_eq, Crc.ext_take]
    by_cases h2 : a.data.toList.take b.size = b.data.toList <;> simp [h, h2]
  · rw [if_neg (by omega)]
    simp [h]
def magic : List UInt8 := [80, 79, 68, 67]
/-- What Open tells. -/
def openP (s : List UInt8) : Nat × List UInt8 × Nat :=
  if s.take 4 = magic.take s.length then
    if s.length < 9 then (0, [], 1)
    else if 4194304 < num ((s.drop 5).take 4) then (0, [], 2)
    else if s.length < num ((s.drop 5).take 4) + 13 then (0, [], 1)
    else if num ((s.drop 5).take 4) + 13 < s.length then (0, [], 6)
    else if s.drop (num ((s.drop 5).take 4) + 9) = be4 (Crc.sum ((s.drop 4).take (num ((s.drop 5).take 4) + 5))).toNat then ((s.getD 4 0).toNat, (s.drop 9).take (num ((s.drop 5).take 4)), 0)
    else (0, [], 5)
  else (0, [], 3)
/-- Nine bytes at the front. -/
theorem nine (l : List UInt8) (h : 9 ≤ l.length) : ∃ a0 a1 a2 a3 a4 a5 a6 a7 a8 r, l = a0 :: a1 :: a2 :: a3 :: a4 :: a5 :: a6 :: a7 :: a8 :: r := by
  match l, h with
  | a0 :: a1 :: a2 :: a3 :: a4 :: a5 :: a6 :: a7 :: a8 :: r, _ => exact ⟨a0, a1, a2, a3, a4, a5, a6, a7, a8, r, rfl⟩
theorem w64n (n : Nat) (h : n ≤ 9223372036854775807) : wrap64 (n : Int) = (n : Int) := by unfold wrap64; omega
def okAt (l : List UInt8) (i : Nat) : Prop := (l.drop i).take (4 - i) = (magic.drop i).take (l.length - i)
instance (l : List UInt8) (i : Nat) : Decidable (okAt l i) := inferInstanceAs (Decidable (_ = _))
end Go.Proofs.YtlmeelmjodjfpaaGreatDoor.Op
end
section
namespace Go.Proofs.YtlmeelmjodjfpaaGreatDoor.PB
open Go.RowKit Go.Proofs.YtlmeelmjodjfpaaGreatDoorW.PrintWords Go.Proofs.YtlmeelmjodjfpaaGreatDoorW.PrintLast Go.Proofs.YtlmeelmjodjfpaaGreatDoorW.PrintMore
open Fr (tx tx_list tx_size tx_app)
open Go.Proofs.YtlmeelmjodjfpaaGreatDoor.Op (num numF)
set_option linter.unusedVariables false
set_option linter.unusedSimpArgs false
/-- Block g holds a taker (first in a struct of type T): what is left, and the error. -/
def TKr (T : Nat) (ex : List Value) (g : Nat) (r : List UInt8) (e : Int) (w : World) : Prop := w.heap[g]? = some (.cells (Value.string (tx r) :: Value.int .i64 e :: ex).toArray T (0, 0))
/-- What a step of a taker comes to. -/
structure TKs (T : Nat) (ex : List Value) (g : Nat) (r : List UInt8) (e : Int) (w0 w w' : World) : Prop where
  tk : TKr T ex g r e w'
  below : Below w0.heap.size w0 w'
  keep : KeepBut w w' g none
section
variable {T : Nat} {ex : List Value} {g : Nat} {r : List UInt8} {e : Int} {w0 w w1 w2 : World}
theorem TKr.c0 (h : TKr T ex g r e w) : w.cell? ⟨g, 0, none⟩ = some (.string (tx r)) := by rw [blk_cell h]; rfl
theorem TKr.c1 (h : TKr T ex g r e w) : w.cell? ⟨g, 1, none⟩ = some (.int .i64 e) := by rw [blk_cell h]; rfl
theorem TKr.f (h : TKr T ex g r e w) (i : Nat) : w.frozen? ⟨g, i, none⟩ = false := blk_frozen h i
theorem TKr.set0 (h : TKr T ex g r e w) (x : List UInt8) : TKr T ex g x e (w.setCell ⟨g, 0, none⟩ (.string (tx x))) := blk_put h 0 _ rfl
theorem TKr.set1 (h : TKr T ex g r e w) (x : Int) : TKr T ex g r x (w.setCell ⟨g, 1, none⟩ (.int .i64 x)) := blk_put h 1 _ rfl
theorem TKs.refl (h : TKr T ex g r e w) (hb : Below w0.heap.size w0 w) : TKs T ex g r e w0 w w := ⟨h, hb, KeepBut.refl _ _ _⟩
theorem TKs.put0 (h : TKs T ex g r e w0 w w1) (hg : w0.heap.size ≤ g) (x : List UInt8) : TKs T ex g x e w0 w (w1.setCell ⟨g, 0, none⟩ (.string (tx x))) := ⟨h.tk.set0 x, h.below.setCell hg _, h.keep.set_ _ _⟩
theorem TKs.put1 (h : TKs T ex g r e w0 w w1) (hg : w0.heap.size ≤ g) (x : Int) : TKs T ex g r x w0 w (w1.setCell ⟨g, 1, none⟩ (.int .i64 x)) := ⟨h.tk.set1 x, h.below.setCell hg _, h.keep.set_ _ _⟩
theorem TKs.then {r' : List UInt8} {e' : Int} (h : TKs T ex g r e w0 w w1) (k : TKs T ex g r' e' w0 w1 w2) : TKs T ex g r' e' w0 w w2 := ⟨k.tk, k.below, h.keep.trans k.keep (.inl rfl)⟩
theorem TKs.quiet (h : TKs T ex g r e w0 w w1) (hb : Below w1.heap.size w1 w2) : TKs T ex g r e w0 w w2 :=
  ⟨blk_below h.tk hb, below_step h.below hb, h.keep.trans (KeepBut.of_below hb g none) (.inl rfl)⟩
end
theorem tx_take (r : List UInt8) (n : Nat) : (tx r).extract 0 n = tx (r.take n) := by
  apply Crc.eq_list
  rw [Lib.extract_data]
  simp [tx_list]
theorem tx_drop (r : List UInt8) (n : Nat) : (tx r).extract n (tx r).size = tx (r.drop n) := by
  apply Crc.eq_list
  rw [Lib.extract_data]
  simp only [tx_list, tx_size]
  rw [List.take_of_length_le (by simp)]
set_option maxHeartbeats 1000000
set_option maxRecDepth 100000
/-- What bytes takes, and what it leaves. -/
def bytesT (n : Nat) (r : List UInt8) (e : Int) : (List UInt8 × Bool) × (List UInt8 × Int) :=
  if e ≠ 0 then (([], false), (r, e)) else if r.length < n then (([], false), (r, 1)) else ((r.take n, true), (r.drop n, e))
theorem bytes.calls {T : Nat} {ex : List Value} {g : Nat} {r : List UInt8} {e : Int} {w0 w : World} (n : Nat) (h : TKr T ex g r e w) (hb : Below w0.heap.size w0 w) (hg : w0.heap.size ≤ g) (hn : n ≤ 1000000) :
    Calls Tryz.prog 88 #[.pointer (some ⟨g, 0, none⟩), .int .i64 (n : Int)] w fun x w' => x = .returned (.tuple #[.string (tx (bytesT n r e).1.1), .bool (bytesT n r e).1.2]) ∧ TKs T ex g (bytesT n r e).2.1 (bytesT n r e).2.2 w0 w w' := by
  have c0 := h.c0
  have c1 := h.c1
  have f0 := h.f 0
  have f1 := h.f 1
  have H := Aside0.mk (TKs.refl h hb)
  clear h hb
  by_cases he : e = 0
  · subst he
    by_cases hs : r.length < n
    · have hF := Aside0.mk (show bytesT n r 0 = (([], false), (r, 1)) from by unfold bytesT; rw [if_neg (by simp), if_pos hs])
      have hs2 : ((tx r).size : Int) < (n : Int) := by rw [tx_size]; omega
      generalize tx r = s at c0 hs2
      rw [hF.out]
      clear hs
      go_enter Tryz.func88, Tryz.ntmps88
      go_wp2_with fail
      go_ret2
      exact ⟨rfl, H.out.put1 hg 1⟩
    · have hF := Aside0.mk (show bytesT n r 0 = ((r.take n, true), (r.drop n, 0)) from by unfold bytesT; rw [if_neg (by simp), if_neg hs])
      have hs2 : (n : Int) ≤ ((tx r).size : Int) := by rw [tx_size]; omega
      have h0 : (0 : Int) ≤ (n : Int) := by omega
      have X1 := Aside0.mk (tx_take r n)
      have X2 := Aside0.mk (tx_drop r n)
      have hz : ((tx r).size : Int) ≤ 9223372036854775807 ∨ True := .inr trivial
      clear hz
      rw [hF.out]
      dsimp only
      rw [← X1.out, show TKs T ex g (r.drop n) 0 w0 w = TKs T ex g (r.drop n) 0 w0 w from rfl]
      have HP := Aside0.mk (H.out.put0 hg (r.drop n))
      rw [← X2.out] at HP
      generalize tx r = s at c0 hs2 HP ⊢
      have hs3 : ¬ (s.size : Int) < (n : Int) := by omega
      have hs4 : n ≤ s.size := by omega
      clear hs X1 X2 H hF
      go_enter Tryz.func88, Tryz.ntmps88
      go_wp2_with fail
      go_ret2
      exact ⟨by simp, by simpa using HP.out⟩
  · have hz0 : (e == 0) = false := beq_eq_false_iff_ne.2 he
    have hz1 : (e != 0) = true := bne_iff_ne.2 he
    have hF := Aside0.mk (show bytesT n r e = (([], false), (r, e)) from by unfold bytesT; rw [if_pos he])
    rw [hF.out]
    clear he
    go_enter Tryz.func88, Tryz.ntmps88
    go_wp2_with fail
    go_ret2
    exact ⟨rfl, H.out⟩
/-- What Take takes, and what it leaves. -/
def takeT (n : Nat) (r : List UInt8) (e : Int) : Nat × (List UInt8 × Int) :=
  if e ≠ 0 then (0, (r, e)) else if r.length < n then (0, (r, 1)) else (num (r.take n), (r.drop n, 0))
theorem size_ok (n : Nat) (hn : n = 1 ∨ n = 2 ∨ n = 4 ∨ n = 8) : pack_size.f (n : Int) = some true := by
  unfold pack_size.f; rcases hn with rfl | rfl | rfl | rfl <;> rfl
theorem cSize (n : Nat) (hn : n = 1 ∨ n = 2 ∨ n = 4 ∨ n = 8) (w : World) : Calls Tryz.prog 87 #[.int .i64 (n : Int)] w fun e w' => e = .returned (.bool true) ∧ Below w.heap.size w w' := by
  refine (pack_size.calls (n : Int) true w (size_ok n hn)).mono ?_
  rintro e w' ⟨rfl, hd⟩
  exact ⟨rfl, by obtain ⟨m, rfl⟩ := hd; exact pw_below_drewN (Below.refl _ _) _⟩
theorem numF_step (l : List UInt8) (i : Nat) (h : i < l.length) : num (l.take (i + 1)) = num (l.take i) * 256 + l[i].toNat := by
  unfold num numF
  rw [List.take_succ_eq_append_getElem h, List.foldl_append]
  rfl
theorem num_bound (l : List UInt8) (i : Nat) (hi : i ≤ 7) : num (l.take i) < 256 ^ i := by
  have h := Go.Proofs.YtlmeelmjodjfpaaGreatDoor.Op.num_lt (l.take i)
  refine Nat.lt_of_lt_of_le h (Nat.pow_le_pow_right (by decide) ?_)
  exact List.length_take_le _ _
theorem Take.calls {T : Nat} {ex : List Value} {g : Nat} {r : List UInt8} {e : Int} {w0 w : World} (n : Nat) (h : TKr T ex g r e w) (hb : Below w0.heap.size w0 w) (hg : w0.heap.size ≤ g) (hn : n = 1 ∨ n = 2 ∨ n = 4 ∨ n = 8) :
    Calls Tryz.prog 44 #[.pointer (some ⟨g, 0, none⟩), .int .i64 (n : Int)] w fun x w' => x = .returned (.int .u64 (takeT n r e).1) ∧ TKs T ex g (takeT n r e).2.1 (takeT n r e).2.2 w0 w w' := by
  have c1 := h.c1
  have H := Aside0.mk (TKs.refl h hb)
  clear h hb
  have hn8 : n ≤ 8 := by omega
  have cS := fun W => cSize n hn W
  clear hn
  by_cases he : e = 0
  · subst he
    have cB := fun (W : World) (k : TKs T ex g r 0 w0 w W) => bytes.calls n k.tk k.below hg (by omega)
    by_cases hs : r.length < n
    · have hF := Aside0.mk (show takeT n r 0 = (0, (r, 1)) from by unfold takeT; rw [if_neg (by simp), if_pos hs])
      have hF2 : bytesT n r 0 = (([], false), (r, 1)) := by unfold bytesT; rw [if_neg (by simp), if_pos hs]
      rw [hF2] at cB
      clear hF2
      rw [hF.out]
      go_enter Tryz.func44, Tryz.ntmps44
      go_wp2_with (go_at_call 87; refine (cS _).mono ?_; rintro x w1 ⟨rfl, hb1⟩; have H1 := Aside0.mk (H.out.quiet hb1); clear hb1 H c1)
      go_wp2_with (go_at_call 88; refine (cB _ H1.out).mono ?_; rintro x w2 ⟨rfl, hk⟩; have H2 := Aside0.mk (H1.out.then hk); clear hk cB cS)
      go_ret
      exact ⟨rfl, H2.out⟩
    · have hF := Aside0.mk (show takeT n r 0 = (num (r.take n), (r.drop n, 0)) from by unfold takeT; rw [if_neg (by simp), if_neg hs])
      have hF2 : bytesT n r 0 = ((r.take n, true), (r.drop n, 0)) := by unfold bytesT; rw [if_neg (by simp), if_neg hs]
      rw [hF2] at cB
      clear hF2
      rw [hF.out]
      have HS := Aside0.mk (show (tx (r.take n)).size = n from by rw [tx_size, List.length_take]; omega)
      have HG := Aside0.mk (show ∀ i (hi : i < n), ∃ (h1 : i < (tx (r.take n)).size) (h2 : i < (r.take n).length), ((tx (r.take n))[i]'h1) = (r.take n)[i]'h2 from fun i hi => ⟨by rw [HS.out]; exact hi, by rw [List.length_take]; omega, rfl⟩)
      have HLn := Aside0.mk (show (r.take n).length = n from by rw [List.length_take]; omega)
      generalize hq : r.take n = q at cB HS HG HLn ⊢
      clear hq hF
      dsimp only at cB ⊢
      go_enter Tryz.func44, Tryz.ntmps44
      go_wp2_with (go_at_call 87; refine (cS _).mono ?_; rintro x w1 ⟨rfl, hb1⟩; have H1 := Aside0.mk (H.out.quiet hb1); clear hb1 H c1)
      go_wp2_with (go_at_call 88; refine (cB _ H1.out).mono ?_; rintro x w2 ⟨rfl, hk⟩; have H2 := Aside0.mk (H1.out.then hk); clear hk cB cS)
      have hsz : ((tx q).size : Int) = (n : Int) := by rw [HS.out]
      have hsz2 : (tx q).size = n := HS.out
      go_loop [7, 32] (fun v i => ∃ k : Nat, k ≤ n ∧ i = .int .i64 (k : Int) ∧ v = .int .u64 ((num (q.take k) : Nat) : Int)) (fun _ i => n - (intOf i).toNat)
      case atStart => exact ⟨0, Nat.zero_le _, rfl, rfl⟩
      case round =>
        obtain ⟨k, hk, rfl, rfl⟩ := hrel
        by_cases hlt : k < n
        · have hlt2 : (k : Int) < (n : Int) := by omega
          have hk0 : (0 : Int) ≤ (k : Int) := by omega
          obtain ⟨hq1, hq2, hq3⟩ := HG.out k hlt
          have HN := Aside0.mk (numF_step q k (by rw [HLn.out]; exact hlt))
          have hb1 := num_bound q k (by omega)
          have hby := (q[k]'hq2).toNat_lt
          have HOR := Aside0.mk (Go.Proofs.YtlmeelmjodjfpaaGreatDoor.Op.or_byte (num (q.take k)) k (((q[k]'hq2).toNat : Nat) : Int) hb1 (by omega) (by omega) (by omega))
          go_wp2
          go_round
          case rel =>
            refine ⟨k + 1, by omega, by go_num, ?_⟩
            have h8 := HOR.out
            rw [Fr.u64_nat (q[k]'hq2).toNat (by omega)] at h8
            rw [h8, HN.out]
            congr 1
          case measure => simp [intOf]; omega
        · have HZ := Aside0.mk (show q.take k = q from List.take_of_length_le (by have := HLn.out; omega))
          go_wp2
          go_ret
          exact ⟨by rw [HZ.out]; rfl, H2.out⟩
  · have hz0 : (e == 0) = false := beq_eq_false_iff_ne.2 he
    have hF := Aside0.mk (show takeT n r e = (0, (r, e)) from by unfold takeT; rw [if_pos he])
    have hF2 : bytesT n r e = (([], false), (r, e)) := by unfold bytesT; rw [if_pos he]
    have cB := fun (W : World) (k : TKs T ex g r e w0 w W) => bytes.calls n k.tk k.below hg (by omega)
    rw [hF2] at cB
    rw [hF.out]
    clear hF2 he cS
    go_enter Tryz.func44, Tryz.ntmps44
    go_wp2_with (go_at_call 88; refine (cB _ H.out).mono ?_; rintro x w2 ⟨rfl, hk⟩; have H2 := Aside0.mk (H.out.then hk); clear hk cB)
    go_ret
    exact ⟨rfl, H2.out⟩
theorem back.calls {T : Nat} {ex : List Value} {g : Nat} {r : List UInt8} {e : Int} {w0 w : World} (was : List UInt8) (e2 : Int) (h : TKr T ex g r e w) (hb : Below w0.heap.size w0 w) (hg : w0.heap.size ≤ g) :
    Calls Tryz.prog 89 #[.pointer (some ⟨g, 0, none⟩), .string (tx was), .int .i64 e2] w fun x w' => x = .returned (.tuple #[]) ∧ TKs T ex g was e2 w0 w w' := by
  have c0 := h.c0
  have c1 := h.c1
  have f0 := h.f 0
  have f1 := h.f 1
  have c2 := (h.set0 was).c1
  have f2 := (h.set0 was).f 1
  have H := Aside0.mk (((TKs.refl h hb).put0 hg was).put1 hg e2)
  clear h hb
  go_enter Tryz.func89, Tryz.ntmps89
  go_wp2_with fail
  go_end0
  exact ⟨rfl, H.out⟩
/-- What Text takes, and what it leaves. -/
def textT (r : List UInt8) (e : Int) : List UInt8 × (List UInt8 × Int) :=
  if e ≠ 0 then ([], (r, e)) else if r.length < 2 then ([], (r, 1)) else if 4096 < num (r.take 2) then ([], (r, 2)) else
    if r.length < 2 + num (r.take 2) then ([], (r, 1)) else ((r.drop 2).take (num (r.take 2)), (r.drop (2 + num (r.take 2)), 0))
theorem Text.calls {T : Nat} {ex : List Value} {g : Nat} {r : List UInt8} {e : Int} {w0 w : World} (h : TKr T ex g r e w) (hb : Below w0.heap.size w0 w) (hg : w0.heap.size ≤ g) :
    Calls Tryz.prog 46 #[.pointer (some ⟨g, 0, none⟩)] w fun x w' => x = .returned (.string (tx (textT r e).1)) ∧ TKs T ex g (textT r e).2.1 (textT r e).2.2 w0 w w' := by
  have c0 := h.c0
  have H := Aside0.mk (TKs.refl h hb)
  have cT := Take.calls 2 h hb hg (by decide)
  clear h hb
  have key : ∃ (n : Nat) (r1 : List UInt8) (e1 : Int), takeT 2 r e = (n, (r1, e1)) := ⟨_, _, _, rfl⟩
  obtain ⟨n, r1, e1, hk⟩ := key
  rw [hk] at cT
  dsimp only at cT
  have hn : n < 65536 := by
    unfold takeT at hk
    split at hk
    · cases hk; decide
    · split at hk
      · cases hk; decide
      · rename_i h1 h2
        have hh := Go.Proofs.YtlmeelmjodjfpaaGreatDoor.Op.num_lt (r.take 2)
        rw [List.length_take, Nat.min_eq_left (by omega)] at hh
        cases hk
        exact hh
  have HK := Aside0.mk hk
  clear hk
  have cBack := fun (W : World) (k : TKs T ex g r1 e1 w0 w W) => back.calls r 2 k.tk k.below hg
  by_cases hbig : 4096 < n
  · have hbig2 : (4096 : Int) < (n : Int) := by omega
    have cB := fun (W : World) (k : TKs T ex g r 2 w0 w W) => bytes.calls n k.tk k.below hg (by omega)
    have hF2 : bytesT n r 2 = (([], false), (r, 2)) := by unfold bytesT; rw [if_pos (by decide)]
    rw [hF2] at cB
    have HF := Aside0.mk (show textT r e = ([], (r, 2)) from by
      have hk := HK.out
      unfold takeT at hk
      unfold textT
      split at hk
      · cases hk; omega
      · rename_i h1
        split at hk
        · cases hk; omega
        · rename_i h2
          cases hk
          rw [if_neg h1, if_neg h2, if_pos hbig])
    rw [HF.out]
    clear hF2 hbig HK
    go_enter Tryz.func46, Tryz.ntmps46
    go_wp2_with (go_at_call 44; refine cT.mono ?_; rintro x w1 ⟨rfl, hk⟩; have H1 := Aside0.mk hk; clear hk cT H c0)
    go_wp2_with (go_at_call 89; refine (cBack _ H1.out).mono ?_; rintro x w2 ⟨rfl, hk⟩; have H2 := Aside0.mk (H1.out.then hk); clear hk cBack)
    go_wp2_with (go_at_call 88; refine (cB _ H2.out).mono ?_; rintro x w3 ⟨rfl, hk⟩; have H3 := Aside0.mk (H2.out.then hk); have HX := Aside0.mk (H3.out.put0 hg r); have c3 := H3.out.tk.c0; have f3 := H3.out.tk.f 0; clear hk cB)
    go_ret
    exact ⟨rfl, HX.out⟩
  · have hbig2 : ¬ (4096 : Int) < (n : Int) := by omega
    have cB := fun (W : World) (k : TKs T ex g r1 e1 w0 w W) => bytes.calls n k.tk k.below hg (by omega)
    clear cBack
    by_cases hok : e1 = 0 ∧ n ≤ r1.length
    · obtain ⟨rfl, hl⟩ := hok
      have hF2 : bytesT n r1 0 = ((r1.take n, true), (r1.drop n, 0)) := by unfold bytesT; rw [if_neg (by simp), if_neg (by omega)]
      rw [hF2] at cB
      have HF := Aside0.mk (show textT r e = (r1.take n, (r1.drop n, 0)) from by
        have hk := HK.out
        unfold takeT at hk
        unfold textT
        split at hk
        · rename_i h1; cases hk; exact absurd rfl h1
        · rename_i h1
          split at hk
          · cases hk
          · rename_i h2
            cases hk
            rw [List.length_drop] at hl
            rw [if_neg h1, if_neg h2, if_neg hbig, if_neg (by omega), List.drop_drop])
      rw [HF.out]
      clear hF2 hbig HK hl
      go_enter Tryz.func46, Tryz.ntmps46
      go_wp2_with (go_at_call 44; refine cT.mono ?_; rintro x w1 ⟨rfl, hk⟩; have H1 := Aside0.mk hk; clear hk cT H c0)
      go_wp2_with (go_at_call 88; refine (cB _ H1.out).mono ?_; rintro x w3 ⟨rfl, hk⟩; have H3 := Aside0.mk (H1.out.then hk); clear hk cB)
      go_ret
      exact ⟨rfl, H3.out⟩
    · have key : ∃ (r2 : List UInt8) (e2 : Int), bytesT n r1 e1 = (([], false), (r2, e2)) ∧ textT r e = ([], (r, e2)) := by
        have hk := HK.out
        unfold takeT at hk
        unfold textT bytesT
        split at hk
        · rename_i h1; cases hk; exact ⟨_, _, by rw [if_pos h1], by rw [if_pos h1]⟩
        · rename_i h1
          split at hk
          · rename_i h2; cases hk; exact ⟨_, _, by rw [if_pos (by decide)], by rw [if_neg h1, if_pos h2]⟩
          · rename_i h2
            cases hk
            have h3 : ¬ num (r.take 2) ≤ (r.drop 2).length := fun q => hok ⟨rfl, q⟩
            rw [List.length_drop] at h3
            exact ⟨_, _, by rw [if_neg (by decide), if_pos (by rw [List.length_drop]; omega)], by rw [if_neg h1, if_neg h2, if_neg hbig, if_pos (by omega)]⟩
      obtain ⟨r2, e2, hF2, hF3⟩ := key
      rw [hF2] at cB
      rw [hF3]
      clear hF2 hF3 hbig hok HK
      go_enter Tryz.func46, Tryz.ntmps46
      go_wp2_with (go_at_call 44; refine cT.mono ?_; rintro x w1 ⟨rfl, hk⟩; have H1 := Aside0.mk hk; clear hk cT H c0)
      go_wp2_with (go_at_call 88; refine (cB _ H1.out).mono ?_; rintro x w3 ⟨rfl, hk⟩; have H3 := Aside0.mk (H1.out.then hk); have HX := Aside0.mk (H3.out.put0 hg r); have c3 := H3.out.tk.c0; have f3 := H3.out.tk.f 0; clear hk cB)
      go_ret
      exact ⟨rfl, HX.out⟩
/-- What Flag takes, and what it leaves. -/
def flagT (r : List UInt8) (e : Int) : Bool × (List UInt8 × Int) :=
  if e ≠ 0 then (false, (r, e)) else if r.length < 1 then (false, (r, 1)) else if 1 < num (r.take 1) then (false, (r, 6)) else (num (r.take 1) == 1, (r.drop 1, 0))
theorem Flag.calls {T : Nat} {ex : List Value} {g : Nat} {r : List UInt8} {e : Int} {w0 w : World} (h : TKr T ex g r e w) (hb : Below w0.heap.size w0 w) (hg : w0.heap.size ≤ g) :
    Calls Tryz.prog 60 #[.pointer (some ⟨g, 0, none⟩)] w fun x w' => x = .returned (.bool (flagT r e).1) ∧ TKs T ex g (flagT r e).2.1 (flagT r e).2.2 w0 w w' := by
  have c0 := h.c0
  have H := Aside0.mk (TKs.refl h hb)
  have cT := Take.calls 1 h hb hg (by decide)
  clear h hb
  have key : ∃ (n : Nat) (r1 : List UInt8) (e1 : Int), takeT 1 r e = (n, (r1, e1)) := ⟨_, _, _, rfl⟩
  obtain ⟨n, r1, e1, hk⟩ := key
  rw [hk] at cT
  dsimp only at cT
  have HK := Aside0.mk hk
  clear hk
  by_cases hbig : 1 < n
  · have hbig2 : (1 : Int) < (n : Int) := by omega
    have hn1 : ((n : Int) == 1) = false := beq_eq_false_iff_ne.2 (by omega)
    have cBack := fun (W : World) (k : TKs T ex g r1 e1 w0 w W) => back.calls r 6 k.tk k.below hg
    have HF := Aside0.mk (show flagT r e = (false, (r, 6)) from by
      have hk := HK.out
      unfold takeT at hk
      unfold flagT
      split at hk
      · cases hk; omega
      · rename_i h1
        split at hk
        · cases hk; omega
        · rename_i h2
          cases hk
          rw [if_neg h1, if_neg h2, if_pos hbig])
    rw [HF.out]
    clear hbig HK
    go_enter Tryz.func60, Tryz.ntmps60
    go_wp2_with (go_at_call 44; refine cT.mono ?_; rintro x w1 ⟨rfl, hk⟩; have H1 := Aside0.mk hk; clear hk cT H c0)
    go_wp2_with (go_at_call 89; refine (cBack _ H1.out).mono ?_; rintro x w2 ⟨rfl, hk⟩; have H2 := Aside0.mk (H1.out.then hk); clear hk cBack)
    go_ret
    exact ⟨rfl, H2.out⟩
  · have hbig2 : ¬ (1 : Int) < (n : Int) := by omega
    obtain ⟨bv, hbv⟩ : ∃ bv, bv = ((n : Int) == 1) := ⟨_, rfl⟩
    have HF := Aside0.mk (show flagT r e = (((n : Int) == 1), (r1, e1)) from by
      have hk := HK.out
      unfold takeT at hk
      unfold flagT
      split at hk
      · rename_i h1; cases hk; rw [if_pos h1]; rfl
      · rename_i h1
        split at hk
        · rename_i h2; cases hk; rw [if_neg h1, if_pos h2]; rfl
        · rename_i h2
          cases hk
          rw [if_neg h1, if_neg h2, if_neg hbig]
          congr 1
          rw [Bool.eq_iff_iff]; simp; omega)
    rw [HF.out]
    clear hbig HK hbv
    go_enter Tryz.func60, Tryz.ntmps60
    go_wp2_with (go_at_call 44; refine cT.mono ?_; rintro x w1 ⟨rfl, hk⟩; have H1 := Aside0.mk hk; clear hk cT H c0)
    go_ret
    exact ⟨rfl, H1.out⟩
/-- What End tells. -/
def endT (r : List UInt8) (e : Int) : Int := if e = 0 then (if r = [] then 0 else 6) else e
theorem End.calls {T : Nat} {ex : List Value} {g : Nat} {r : List UInt8} {e : Int} {w : World} (h : TKr T ex g r e w) :
    Calls Tryz.prog 47 #[.pointer (some ⟨g, 0, none⟩)] w fun x w' => x = .returned (.int .i64 (endT r e)) ∧ Below w.heap.size w w' := by
  have c0 := h.c0
  have c1 := h.c1
  clear h
  by_cases he : e = 0
  · subst he
    by_cases hr : r = []
    · subst hr
      have hz1 : (tx []).toList.isEmpty = true := by rw [Go.ByteArray.toList_eq]; rfl
      generalize tx [] = s at c0 hz1
      go_enter Tryz.func47, Tryz.ntmps47
      go_wp2_with fail
      go_ret
      exact ⟨rfl, Below.refl _ _⟩
    · have hz1 : (tx r).toList.isEmpty = false := by
        rw [Go.ByteArray.toList_eq, tx_list]
        cases r with
        | nil => exact absurd rfl hr
        | cons a b => rfl
      have HF := Aside0.mk (show endT r 0 = 6 from by unfold endT; rw [if_pos rfl, if_neg hr])
      rw [HF.out]
      generalize tx r = s at c0 hz1
      go_enter Tryz.func47, Tryz.ntmps47
      go_wp2_with fail
      go_ret
      exact ⟨rfl, Below.refl _ _⟩
  · have hz0 : (e == 0) = false := beq_eq_false_iff_ne.2 he
    have HF := Aside0.mk (show endT r e = e from by unfold endT; rw [if_neg he])
    rw [HF.out]
    clear he
    go_enter Tryz.func47, Tryz.ntmps47
    go_wp2_with fail
    go_ret
    exact ⟨rfl, Below.refl _ _⟩
end Go.Proofs.YtlmeelmjodjfpaaGreatDoor.PB
end
