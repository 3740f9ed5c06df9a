/- CkptBursts, part 12 of 24 of its proof: for every input that meets the row's condition (laid, tied) the call returns true and each argument reads behind it as before. -/
import Derived.Test.YtlmeelmjodjfpaaGreatDoorG10
namespace Go.Proofs.YtlmeelmjodjfpaaGreatDoor.PB
open Go.RowKit Go.Maps Go.Proofs.YtlmeelmjodjfpaaGreatDoorW.PrintWords Go.Proofs.YtlmeelmjodjfpaaGreatDoorW.PrintLast Go.Proofs.YtlmeelmjodjfpaaGreatDoorW.PrintMore
set_option linter.unusedVariables false
set_option linter.unusedSimpArgs false
/-- Which operations have come up: the bits of a number. -/
def bl (n m : Nat) : Array Bool := ((List.range n).map (fun i => m.testBit i)).toArray
def whenP (b : Bool) (e : Int) : Int := if b then e else 0
theorem cWhenP (b : Bool) (e : Int) (w : World) : Calls Tryz.prog 121 #[.bool b, .int .i64 e] w fun x w' => x = .returned (.int .i64 (whenP b e)) ∧ Drawn0 w w' := cWhen b e w
def manyP (n : Nat) : Bool := decide (16 < n)
theorem cMany (n : Nat) (w : World) : Calls Tryz.prog 123 #[.int .i64 (n : Int)] w fun x w' => x = .returned (.bool (manyP n)) ∧ Drawn0 w w' :=
  spec_many.calls (n : Int) _ w (by unfold spec_many.f manyP; congr 1; exact decide_eq_decide.2 (by omega))
def fromP (a b : Int) : Bool := decide (1 ≤ a) && decide (a ≤ b)
theorem cFromP (a b : Int) (w : World) : Calls Tryz.prog 122 #[.int .i64 a, .int .i64 b] w fun x w' => x = .returned (.bool (fromP a b)) ∧ Drawn0 w w' := cFrom a b w
theorem first4 (a b c d : Int) (k : Nat) (hk : 7 ≤ k) : spec_first.f k [a, b, c, d] = some (orP a (orP b (orP c d))) := by
  obtain ⟨k, rfl⟩ : ∃ m, k = m + 7 := ⟨k - 7, by omega⟩
  by_cases h : a = 0 <;> by_cases h2 : b = 0 <;> by_cases h3 : c = 0 <;> by_cases h4 : d = 0 <;> simp [spec_first.f, spec_first.l0, rd, wrap64, orP, h, h2, h3, h4]
theorem first5 (a b c d e : Int) (k : Nat) (hk : 8 ≤ k) : spec_first.f k [a, b, c, d, e] = some (orP a (orP b (orP c (orP d e)))) := by
  obtain ⟨k, rfl⟩ : ∃ m, k = m + 8 := ⟨k - 8, by omega⟩
  by_cases h : a = 0 <;> by_cases h2 : b = 0 <;> by_cases h3 : c = 0 <;> by_cases h4 : d = 0 <;> by_cases h5 : e = 0 <;> simp [spec_first.f, spec_first.l0, rd, wrap64, orP, h, h2, h3, h4, h5]
theorem cFirst4 (W : World) (a b c d r : Int) (t : TypeId) (hr : spec_first.f 7 [a, b, c, d] = some r) : Calls Tryz.prog 120 #[.slice (some ⟨W.heap.size, 0, none⟩) 4 4] (W.alloc (.cells #[.int .i64 a, .int .i64 b, .int .i64 c, .int .i64 d] t)) fun e w' => e = .returned (.int .i64 r) ∧ Drawn0 (W.alloc (.cells #[.int .i64 a, .int .i64 b, .int .i64 c, .int .i64 d] t)) w' := cFirst W [a, b, c, d] r t 4 7 rfl (by omega) hr
theorem cFirst5 (W : World) (a b c d x r : Int) (t : TypeId) (hr : spec_first.f 8 [a, b, c, d, x] = some r) : Calls Tryz.prog 120 #[.slice (some ⟨W.heap.size, 0, none⟩) 5 5] (W.alloc (.cells #[.int .i64 a, .int .i64 b, .int .i64 c, .int .i64 d, .int .i64 x] t)) fun e w' => e = .returned (.int .i64 r) ∧ Drawn0 (W.alloc (.cells #[.int .i64 a, .int .i64 b, .int .i64 c, .int .i64 d, .int .i64 x] t)) w' := cFirst W [a, b, c, d, x] r t 5 8 rfl (by omega) hr
/-- A pod's head: what is wrong with its names, its numbers, the count of its containers. -/
def headP (n s : ByteArray) (rs gr : Int) (k : Nat) : Int :=
  orP (whenP (!nameP n || !labelP s) 13) (orP (whenP (decide (rs < 0) || decide (2 < rs) || !fromP gr 3600) 7) (orP (whenP (decide (k = 0)) 16) (whenP (manyP k) 18)))
/-- A container's head, the names that have come ahead of it beside. -/
def chP (seen : List ByteArray) (c : S104) : Int :=
  orP (whenP (!labelP c.f0) 13) (orP (whenP (decide (0 < cntOf seen c.f0)) 8) (orP (whenP (!imageP c.f1) 6) (orP (whenP (manyP c.f2.length || manyP c.f3.length || manyP c.f6.length) 18) (whenP (!fromP c.f4 64000 || !fromP c.f5 1048576) 7))))
def contE (seen : List ByteArray) (c : S104) : Int := orP (chP seen c) (partsP c.f2 c.f3 c.f6)
def contsP : List ByteArray → List S104 → Int
  | _, [] => 0
  | seen, c :: r => if contE seen c = 0 then contsP (seen ++ [c.f0]) r else contE seen c
def podP (n s : ByteArray) (rs gr : Int) (l : List S104) : Int := orP (headP n s rs gr l.length) (contsP [] l)
/-- The bounds that the checks ask of a container. -/
def SmC (c : S104) : Prop := c.f0.size ≤ 140737488355328 ∧ c.f1.size ≤ 140737488355328 ∧ (∀ s ∈ c.f2, s.size ≤ 140737488355328) ∧ (∀ p ∈ c.f3, okP p) ∧ (∀ v ∈ c.f6, v.f0.size ≤ 140737488355328 ∧ v.f1.size ≤ 140737488355328) ∧ c.f2.length ≤ 140737488355328 ∧ c.f3.length ≤ 140737488355328 ∧ c.f6.length ≤ 140737488355328
/-- What the first statement of Check keeps. -/
theorem PC_later {w : World} {N : Nat} {n s : ByteArray} {rs gr : Int} {A : Option Addr} {k c : Nat} {W W' : World}
    (h : W.cell? ⟨N, 0, none⟩ = some (.string n) ∧ W.cell? ⟨N, 1, none⟩ = some (.string s) ∧ W.cell? ⟨N, 2, none⟩ = some (.int .i64 rs) ∧ W.cell? ⟨N, 3, none⟩ = some (.int .i64 gr) ∧ W.cell? ⟨N, 5, none⟩ = some (.slice A k c) ∧ N < W.heap.size ∧ Tabs W ∧ Below w.heap.size w W)
    (hb : Below W.heap.size W W') :
    W'.cell? ⟨N, 0, none⟩ = some (.string n) ∧ W'.cell? ⟨N, 1, none⟩ = some (.string s) ∧ W'.cell? ⟨N, 2, none⟩ = some (.int .i64 rs) ∧ W'.cell? ⟨N, 3, none⟩ = some (.int .i64 gr) ∧ W'.cell? ⟨N, 5, none⟩ = some (.slice A k c) ∧ N < W'.heap.size ∧ Tabs W' ∧ Below w.heap.size w W' := by
  obtain ⟨h0, h1, h2, h3, h5, h4, h6, h7⟩ := h
  exact ⟨(hb.cell (p := ⟨N, 0, none⟩) h4).trans h0, (hb.cell (p := ⟨N, 1, none⟩) h4).trans h1, (hb.cell (p := ⟨N, 2, none⟩) h4).trans h2, (hb.cell (p := ⟨N, 3, none⟩) h4).trans h3, (hb.cell (p := ⟨N, 5, none⟩) h4).trans h5, Nat.lt_of_lt_of_le h4 hb.size, h6.below hb, below_step h7 hb⟩
theorem cell_moved {B : Nat} {w w' : World} (hb : Below w.heap.size w w') {a : Addr} {u : Value} (h : w.cell? a = some u) : w'.cell? a = some u := by
  obtain ⟨o, ho, _⟩ := cells_of_cell h
  exact (hb.cell (p := a) (Array.getElem?_eq_some_iff.1 ho).1).trans h
/-- What a round over the containers keeps. -/
theorem PD_later {w : World} {pb mb n : Nat} {c : S104} {A2 A3 A6 : Option Addr} {c2 c3 c6 : Nat} {ks : List ByteArray} {x : Int} (hok : okS c.f0) (hc : ((cntOf ks c.f0 : Nat) : Int) = x) {W W' : World}
    (h : W.cell? ⟨pb, 0, none⟩ = some (.string c.f0) ∧ W.cell? ⟨pb, 1, none⟩ = some (.string c.f1) ∧ W.cell? ⟨pb, 2, none⟩ = some (.slice A2 c.f2.length c2) ∧ W.cell? ⟨pb, 3, none⟩ = some (.slice A3 c.f3.length c3) ∧ W.cell? ⟨pb, 4, none⟩ = some (.int .i64 c.f4) ∧ W.cell? ⟨pb, 5, none⟩ = some (.int .i64 c.f5) ∧ W.cell? ⟨pb, 6, none⟩ = some (.slice A6 c.f6.length c6) ∧ (Instr.lookup 198 (.map (some mb)) (.string c.f0) false).run Tryz.prog W = .ok (.int .i64 x) W ∧ Cnt 9 klS okS mb n ks W ∧ pb < W.heap.size ∧ Tabs W ∧ Below w.heap.size w W)
    (hb : Below W.heap.size W W') :
    W'.cell? ⟨pb, 0, none⟩ = some (.string c.f0) ∧ W'.cell? ⟨pb, 1, none⟩ = some (.string c.f1) ∧ W'.cell? ⟨pb, 2, none⟩ = some (.slice A2 c.f2.length c2) ∧ W'.cell? ⟨pb, 3, none⟩ = some (.slice A3 c.f3.length c3) ∧ W'.cell? ⟨pb, 4, none⟩ = some (.int .i64 c.f4) ∧ W'.cell? ⟨pb, 5, none⟩ = some (.int .i64 c.f5) ∧ W'.cell? ⟨pb, 6, none⟩ = some (.slice A6 c.f6.length c6) ∧ (Instr.lookup 198 (.map (some mb)) (.string c.f0) false).run Tryz.prog W' = .ok (.int .i64 x) W' ∧ Cnt 9 klS okS mb n ks W' ∧ pb < W'.heap.size ∧ Tabs W' ∧ Below w.heap.size w W' := by
  obtain ⟨h0, h1, h2, h3, h4, h5, h6, _, h8, h9, h10, h11⟩ := h
  have h7 := h8.later hb
  refine ⟨(hb.cell (p := ⟨pb, 0, none⟩) h9).trans h0, (hb.cell (p := ⟨pb, 1, none⟩) h9).trans h1, (hb.cell (p := ⟨pb, 2, none⟩) h9).trans h2, (hb.cell (p := ⟨pb, 3, none⟩) h9).trans h3, (hb.cell (p := ⟨pb, 4, none⟩) h9).trans h4, (hb.cell (p := ⟨pb, 5, none⟩) h9).trans h5, (hb.cell (p := ⟨pb, 6, none⟩) h9).trans h6, ?_, h7, Nat.lt_of_lt_of_le h9 hb.size, h10.below hb, below_step h11 hb⟩
  have := h7.look lawS hok
  rw [hc] at this
  exact this
set_option maxRecDepth 100000
set_option maxHeartbeats 1000000
theorem spec_Pod_Check.calls (n s : ByteArray) (rs gr : Int) (h : Bool) (A5 : Option Addr) (c5 : Nat) (l5 : List S104) (w : World) (hT : Tabs w)
    (h5 : k104.C w A5 l5.length l5) (hc5 : l5.length ≤ c5) (sn : n.size ≤ 140737488355328) (ss : s.size ≤ 140737488355328) (s5 : ∀ c ∈ l5, SmC c) (hl5 : l5.length ≤ 140737488355328) :
    Calls Tryz.prog 101 #[.agg #[.string n, .string s, .int .i64 rs, .int .i64 gr, .bool h, .slice A5 l5.length c5]] w fun e w' => e = .returned (.int .i64 (podP n s rs gr l5)) ∧ Below w.heap.size w w' := by
  have H5 := Aside0.mk h5
  have HT := Aside0.mk hT
  have S5 := Aside0.mk s5
  clear h5 hT s5
  go_enter Tryz.func101, Tryz.ntmps101
  go_wp2_with fail
  have hb0 := (Below.refl w.heap.size w).alloc (Nat.le_refl _) (.cells #[.string n, .string s, .int .i64 rs, .int .i64 gr, .bool h, .slice A5 l5.length c5] 92)
  have hP := And.intro (newCell w #[.string n, .string s, .int .i64 rs, .int .i64 gr, .bool h, .slice A5 l5.length c5] 92 0 (.string n) rfl).1 (And.intro (newCell w #[.string n, .string s, .int .i64 rs, .int .i64 gr, .bool h, .slice A5 l5.length c5] 92 1 (.string s) rfl).1 (And.intro (newCell w #[.string n, .string s, .int .i64 rs, .int .i64 gr, .bool h, .slice A5 l5.length c5] 92 2 (.int .i64 rs) rfl).1 (And.intro (newCell w #[.string n, .string s, .int .i64 rs, .int .i64 gr, .bool h, .slice A5 l5.length c5] 92 3 (.int .i64 gr) rfl).1 (And.intro (newCell w #[.string n, .string s, .int .i64 rs, .int .i64 gr, .bool h, .slice A5 l5.length c5] 92 5 (.slice A5 l5.length c5) rfl).1 (And.intro (show w.heap.size < (w.alloc (.cells #[.string n, .string s, .int .i64 rs, .int .i64 gr, .bool h, .slice A5 l5.length c5] 92)).heap.size by simp) (And.intro (HT.out.below hb0) hb0))))))
  generalize w.alloc (.cells #[.string n, .string s, .int .i64 rs, .int .i64 gr, .bool h, .slice A5 l5.length c5] 92) = W0 at hP ⊢
  have HS := Aside0.mk (PC_later hP (show Below W0.heap.size W0 W0.drew from ⟨rfl, rfl, rfl, Nat.le_refl _, fun _ _ => rfl⟩))
  clear hP hb0
  obtain ⟨r, hr⟩ : ∃ r : Int, r = headP n s rs gr l5.length := ⟨_, rfl⟩
  have HQ := Aside0.mk hr
  clear hr
  have cN := fun W => cName n W sn
  have cL := fun W => cLabel s W ss
  generalize hnm : nameP n = nm at cN
  generalize hlb : labelP s = lb at cL
  have cG := fun W => cFromP gr 3600 W
  generalize hfg : fromP gr 3600 = fg at cG
  have HH := Aside0.mk (show headP n s rs gr l5.length = orP (whenP (!nm || !lb) 13) (orP (whenP (decide (rs < 0) || decide (2 < rs) || !fg) 7) (orP (whenP ((l5.length : Int) == 0) 16) (whenP (manyP l5.length) 18))) from by
    unfold headP; rw [hnm, hlb, hfg, show decide (l5.length = 0) = ((l5.length : Int) == 0) from by rw [Bool.eq_iff_iff]; simp])
  clear hnm hlb hfg
  refine start_ (n := 39) (S := fun w' => w'.cell? ⟨w.heap.size, 0, none⟩ = some (.string n) ∧ w'.cell? ⟨w.heap.size, 1, none⟩ = some (.string s) ∧ w'.cell? ⟨w.heap.size, 2, none⟩ = some (.int .i64 rs) ∧ w'.cell? ⟨w.heap.size, 3, none⟩ = some (.int .i64 gr) ∧ w'.cell? ⟨w.heap.size, 5, none⟩ = some (.slice A5 l5.length c5) ∧ w.heap.size < w'.heap.size ∧ Tabs w' ∧ Below w.heap.size w w') (ds := []) (bl 39 0) (by kernel_rfl) rfl (by kernel_rfl) (HS.out) (fun hHeld => ?_)
  refine pure_ (i := 0) (N := some 8) (v := ?_) (a' := ?_) (bl 39 1) rfl rfl (by kernel_rfl) (fun _ _ _ h => h) (Or.inl ⟨by rfl, ?_⟩) ?_ ?_; rotate_left
  · (intro w'; go_simp; with_reducible rfl)
  rotate_left
  · (simp only [Act.put, List.setIfInBounds_toArray, List.set_cons_zero, List.set_cons_succ, i64_w, i32_w]; rfl)
  refine pure_ (i := 11) (N := some 19) (v := ?_) (a' := ?_) (bl 39 2049) rfl rfl (by kernel_rfl) (fun _ _ _ h => h) (Or.inl ⟨by rfl, ?_⟩) ?_ ?_; rotate_left
  · (intro w'; go_simp; with_reducible rfl)
  rotate_left
  · (simp only [Act.put, List.setIfInBounds_toArray, List.set_cons_zero, List.set_cons_succ, i64_w, i32_w]; rfl)
  refine pure_ (i := 26) (N := some 34) (v := ?_) (a' := ?_) (bl 39 67110913) rfl rfl (by kernel_rfl) (fun _ _ _ h => h) (Or.inl ⟨by rfl, ?_⟩) ?_ ?_; rotate_left
  · (intro w'; go_simp; with_reducible rfl)
  rotate_left
  · (simp only [Act.put, List.setIfInBounds_toArray, List.set_cons_zero, List.set_cons_succ, i64_w, i32_w]; rfl)
  refine pure_ (i := 31) (N := some 39) (v := ?_) (a' := ?_) (bl 39 2214594561) rfl rfl (by kernel_rfl) (fun _ _ _ h => h) (Or.inl ⟨by rfl, ?_⟩) ?_ ?_; rotate_left
  · (intro w'; go_simp; with_reducible rfl)
  rotate_left
  · (simp only [Act.put, List.setIfInBounds_toArray, List.set_cons_zero, List.set_cons_succ, i64_w, i32_w]; rfl)
  refine take_ (i := 1) (N := some 9) (v := ?_) (a' := ?_) (bl 39 2214594563) rfl rfl (by kernel_rfl) (fun _ _ _ h => h) (Or.inl ⟨by rfl, ?_⟩) hHeld ?_ ?_; rotate_left
  · (rintro w' ⟨s0, s1, s2, s3, s4, s5, s6, s7⟩; go_simp; with_reducible rfl)
  rotate_left
  · (simp only [Act.put, List.setIfInBounds_toArray, List.set_cons_zero, List.set_cons_succ, i64_w, i32_w]; rfl)
  refine take_ (i := 12) (N := some 20) (v := ?_) (a' := ?_) (bl 39 2214598659) rfl rfl (by kernel_rfl) (fun _ _ _ h => h) (Or.inl ⟨by rfl, ?_⟩) hHeld ?_ ?_; rotate_left
  · (rintro w' ⟨s0, s1, s2, s3, s4, s5, s6, s7⟩; go_simp; with_reducible rfl)
  rotate_left
  · (simp only [Act.put, List.setIfInBounds_toArray, List.set_cons_zero, List.set_cons_succ, i64_w, i32_w]; rfl)
  refine pure_ (i := 13) (N := some 21) (v := ?_) (a' := ?_) (bl 39 2214606851) rfl rfl (by kernel_rfl) (fun _ _ _ h => h) (Or.inl ⟨by rfl, ?_⟩) ?_ ?_; rotate_left
  · (intro w'; go_simp; with_reducible rfl)
  rotate_left
  · (simp only [Act.put, List.setIfInBounds_toArray, List.set_cons_zero, List.set_cons_succ, i64_w, i32_w]; rfl)
  refine take_ (i := 27) (N := some 35) (v := ?_) (a' := ?_) (bl 39 2348824579) rfl rfl (by kernel_rfl) (fun _ _ _ h => h) (Or.inl ⟨by rfl, ?_⟩) hHeld ?_ ?_; rotate_left
  · (rintro w' ⟨s0, s1, s2, s3, s4, s5, s6, s7⟩; go_simp; with_reducible rfl)
  rotate_left
  · (simp only [Act.put, List.setIfInBounds_toArray, List.set_cons_zero, List.set_cons_succ, i64_w, i32_w]; rfl)
  refine pure_ (i := 28) (N := some 36) (v := ?_) (a' := ?_) (bl 39 2617260035) rfl rfl (by kernel_rfl) (fun _ _ _ h => h) (Or.inl ⟨by rfl, ?_⟩) ?_ ?_; rotate_left
  · (intro w'; go_simp; with_reducible rfl)
  rotate_left
  · (simp only [Act.put, List.setIfInBounds_toArray, List.set_cons_zero, List.set_cons_succ, i64_w, i32_w]; rfl)
  refine pure_ (i := 29) (N := some 37) (v := ?_) (a' := ?_) (bl 39 3154130947) rfl rfl (by kernel_rfl) (fun _ _ _ h => h) (Or.inl ⟨by rfl, ?_⟩) ?_ ?_; rotate_left
  · (intro w'; go_simp; with_reducible rfl)
  rotate_left
  · (simp only [Act.put, List.setIfInBounds_toArray, List.set_cons_zero, List.set_cons_succ, i64_w, i32_w]; rfl)
  refine take_ (i := 32) (N := some 40) (v := ?_) (a' := ?_) (bl 39 7449098243) rfl rfl (by kernel_rfl) (fun _ _ _ h => h) (Or.inl ⟨by rfl, ?_⟩) hHeld ?_ ?_; rotate_left
  · (rintro w' ⟨s0, s1, s2, s3, s4, s5, s6, s7⟩; go_simp; with_reducible rfl)
  rotate_left
  · (simp only [Act.put, List.setIfInBounds_toArray, List.set_cons_zero, List.set_cons_succ, i64_w, i32_w]; rfl)
  refine pure_ (i := 33) (N := some 41) (v := ?_) (a' := ?_) (bl 39 16039032835) rfl rfl (by kernel_rfl) (fun _ _ _ h => h) (Or.inl ⟨by rfl, ?_⟩) ?_ ?_; rotate_left
  · (intro w'; go_simp; with_reducible rfl)
  rotate_left
  · (simp only [Act.put, List.setIfInBounds_toArray, List.set_cons_zero, List.set_cons_succ, i64_w, i32_w]; rfl)
  refine one_ (i := 2) (N := some 10) (bl 39 16039032839) rfl rfl (by kernel_rfl) (by decide) (fun K hK => ?_)
  refine goes_ Tryz.func91 (by kernel_rfl) rfl #[.string n] (by rfl) rfl rfl (by simp only [List.map_toArray, List.map_cons, List.map_nil]; rfl) ?_
  with_reducible refine (cN _).mono ?_
  rintro e w3 ⟨rfl, hb⟩
  refine ⟨_, rfl, ?_⟩
  refine hK.out _ _ (PC_later hHeld hb) (fun hNow => ?_)
  clear hK K hHeld
  have hHeld := hNow
  clear hNow
  refine norm_ (a' := ?_) ?_ ?_
  rotate_left
  · show Act.put _ (some 10) _ = _
    simp only [Act.put, List.setIfInBounds_toArray, List.set_cons_zero, List.set_cons_succ, i64_w, i32_w]
    rfl
  refine pure_ (i := 3) (N := some 11) (v := ?_) (a' := ?_) (bl 39 16039032847) rfl rfl (by kernel_rfl) (fun _ _ _ h => h) (Or.inl ⟨by rfl, ?_⟩) ?_ ?_; rotate_left
  · (intro w'; go_simp; with_reducible rfl)
  rotate_left
  · (simp only [Act.put, List.setIfInBounds_toArray, List.set_cons_zero, List.set_cons_succ, i64_w, i32_w]; rfl)
  refine pure_ (i := 4) (N := some 12) (v := ?_) (a' := ?_) (bl 39 16039032863) rfl rfl (by kernel_rfl) (fun _ _ _ h => h) (Or.inl ⟨by rfl, ?_⟩) ?_ ?_; rotate_left
  · (intro w'; go_simp; with_reducible rfl)
  rotate_left
  · (simp only [Act.put, List.setIfInBounds_toArray, List.set_cons_zero, List.set_cons_succ, i64_w, i32_w]; rfl)
  refine join_ (σ := Value × Value × Value × Value × Bool) 19 (bl 39 16039033855) (fun x => [(13, x.1), (14, x.2.1), (15, x.2.2.1), (16, x.2.2.2.1), (17, .bool x.2.2.2.2)]) (fun x w' => (w'.cell? ⟨w.heap.size, 0, none⟩ = some (.string n) ∧ w'.cell? ⟨w.heap.size, 1, none⟩ = some (.string s) ∧ w'.cell? ⟨w.heap.size, 2, none⟩ = some (.int .i64 rs) ∧ w'.cell? ⟨w.heap.size, 3, none⟩ = some (.int .i64 gr) ∧ w'.cell? ⟨w.heap.size, 5, none⟩ = some (.slice A5 l5.length c5) ∧ w.heap.size < w'.heap.size ∧ Tabs w' ∧ Below w.heap.size w w') ∧ x.2.2.2.2 = (!nm || !lb)) ?_ ?_
  rotate_left
  · intro hCont
    cases nm with
    | false =>
      refine pure_ (i := 5) (N := some 13) (v := undef) (a' := ?_) (bl 39 16039032895) rfl rfl (by kernel_rfl) (fun _ _ _ h => h) (Or.inr ⟨by rfl, rfl⟩) ?_ ?_; rotate_left
      · (simp only [Act.put, List.setIfInBounds_toArray, List.set_cons_zero, List.set_cons_succ, i64_w, i32_w]; rfl)
      refine pure_ (i := 6) (N := some 14) (v := undef) (a' := ?_) (bl 39 16039032959) rfl rfl (by kernel_rfl) (fun _ _ _ h => h) (Or.inr ⟨by rfl, rfl⟩) ?_ ?_; rotate_left
      · (simp only [Act.put, List.setIfInBounds_toArray, List.set_cons_zero, List.set_cons_succ, i64_w, i32_w]; rfl)
      refine pure_ (i := 7) (N := some 15) (v := undef) (a' := ?_) (bl 39 16039033087) rfl rfl (by kernel_rfl) (fun _ _ _ h => h) (Or.inr ⟨by rfl, rfl⟩) ?_ ?_; rotate_left
      · (simp only [Act.put, List.setIfInBounds_toArray, List.set_cons_zero, List.set_cons_succ, i64_w, i32_w]; rfl)
      refine pure_ (i := 8) (N := some 16) (v := undef) (a' := ?_) (bl 39 16039033343) rfl rfl (by kernel_rfl) (fun _ _ _ h => h) (Or.inr ⟨by rfl, rfl⟩) ?_ ?_; rotate_left
      · (simp only [Act.put, List.setIfInBounds_toArray, List.set_cons_zero, List.set_cons_succ, i64_w, i32_w]; rfl)
      refine pure_ (i := 9) (N := some 17) (v := ?_) (a' := ?_) (bl 39 16039033855) rfl rfl (by kernel_rfl) (fun _ _ _ h => h) (Or.inl ⟨by rfl, ?_⟩) ?_ ?_; rotate_left
      · (intro w'; go_simp; with_reducible rfl)
      rotate_left
      · (simp only [Act.put, List.setIfInBounds_toArray, List.set_cons_zero, List.set_cons_succ, i64_w, i32_w]; rfl)
      exact norm_ (by simp only [putAll, Act.put, List.setIfInBounds_toArray, List.set_cons_zero, List.set_cons_succ]) (hCont (undef, undef, undef, undef, true) _ ⟨hHeld, rfl⟩)
    | true =>
      refine pure_ (i := 5) (N := some 13) (v := ?_) (a' := ?_) (bl 39 16039032895) rfl rfl (by kernel_rfl) (fun _ _ _ h => h) (Or.inl ⟨by rfl, ?_⟩) ?_ ?_; rotate_left
      · (intro w'; go_simp; with_reducible rfl)
      rotate_left
      · (simp only [Act.put, List.setIfInBounds_toArray, List.set_cons_zero, List.set_cons_succ, i64_w, i32_w]; rfl)
      refine take_ (i := 6) (N := some 14) (v := ?_) (a' := ?_) (bl 39 16039032959) rfl rfl (by kernel_rfl) (fun _ _ _ h => h) (Or.inl ⟨by rfl, ?_⟩) hHeld ?_ ?_; rotate_left
      · (rintro w' ⟨s0, s1, s2, s3, s4, s5, s6, s7⟩; go_simp; with_reducible rfl)
      rotate_left
      · (simp only [Act.put, List.setIfInBounds_toArray, List.set_cons_zero, List.set_cons_succ, i64_w, i32_w]; rfl)
      refine one_ (i := 7) (N := some 15) (bl 39 16039033087) rfl rfl (by kernel_rfl) (by decide) (fun K hK => ?_)
      refine goes_ Tryz.func95 (by kernel_rfl) rfl #[.string s] (by rfl) rfl rfl (by simp only [List.map_toArray, List.map_cons, List.map_nil]; rfl) ?_
      with_reducible refine (cL _).mono ?_
      rintro e w3 ⟨rfl, hb⟩
      refine ⟨_, rfl, ?_⟩
      refine hK.out _ _ (PC_later hHeld hb) (fun hNow => ?_)
      clear hK K hHeld
      have hHeld := hNow
      clear hNow
      refine norm_ (a' := ?_) ?_ ?_
      rotate_left
      · show Act.put _ (some 15) _ = _
        simp only [Act.put, List.setIfInBounds_toArray, List.set_cons_zero, List.set_cons_succ, i64_w, i32_w]
        rfl
      refine pure_ (i := 8) (N := some 16) (v := ?_) (a' := ?_) (bl 39 16039033343) rfl rfl (by kernel_rfl) (fun _ _ _ h => h) (Or.inl ⟨by rfl, ?_⟩) ?_ ?_; rotate_left
      · (intro w'; go_simp; with_reducible rfl)
      rotate_left
      · (simp only [Act.put, List.setIfInBounds_toArray, List.set_cons_zero, List.set_cons_succ, i64_w, i32_w]; rfl)
      refine pure_ (i := 9) (N := some 17) (v := ?_) (a' := ?_) (bl 39 16039033855) rfl rfl (by kernel_rfl) (fun _ _ _ h => h) (Or.inl ⟨by rfl, ?_⟩) ?_ ?_; rotate_left
      · (intro w'; go_simp; with_reducible rfl)
      rotate_left
      · (simp only [Act.put, List.setIfInBounds_toArray, List.set_cons_zero, List.set_cons_succ, i64_w, i32_w]; rfl)
      exact norm_ (by simp only [putAll, Act.put, List.setIfInBounds_toArray, List.set_cons_zero, List.set_cons_succ]) (hCont (.pointer (some ⟨w.heap.size, 1, none⟩), .string s, .bool lb, .bool (!lb), !lb) _ ⟨hHeld, rfl⟩)
  rintro ⟨v13, v14, v15, v16, b17⟩ wq ⟨hNow, hb17⟩
  dsimp only at hb17
  subst hb17
  clear hHeld
  have hHeld := hNow
  clear hNow
  generalize hb17 : (!nm || !lb) = b17
  have HB17 := Aside0.mk hb17
  clear hb17
  refine norm_ (a' := ?_) ?_ ?_
  rotate_left
  · simp only [putAll, Act.put, List.setIfInBounds_toArray, List.set_cons_zero, List.set_cons_succ]
    rfl
  refine one_ (i := 10) (N := some 18) (bl 39 16039034879) rfl rfl (by kernel_rfl) (by decide) (fun K hK => ?_)
  refine goes_ Tryz.func121 (by kernel_rfl) rfl #[.bool b17, .int .i64 13] (by rfl) rfl rfl (by simp only [List.map_toArray, List.map_cons, List.map_nil]; rfl) ?_
  with_reducible refine (cWhenP b17 13 _).mono ?_
  rintro e w4 ⟨rfl, hb⟩
  refine ⟨_, rfl, ?_⟩
  refine hK.out _ _ (PC_later hHeld hb.below) (fun hNow => ?_)
  clear hK K hHeld
  have hHeld := hNow
  clear hNow
  refine norm_ (a' := ?_) ?_ ?_
  rotate_left
  · show Act.put _ (some 18) _ = _
    simp only [Act.put, List.setIfInBounds_toArray, List.set_cons_zero, List.set_cons_succ, i64_w, i32_w]
    rfl
  refine pure_ (i := 14) (N := some 22) (v := ?_) (a' := ?_) (bl 39 16039051263) rfl rfl (by kernel_rfl) (fun _ _ _ h => h) (Or.inl ⟨by rfl, ?_⟩) ?_ ?_; rotate_left
  · (intro w'; go_simp; with_reducible rfl)
  rotate_left
  · (simp only [Act.put, List.setIfInBounds_toArray, List.set_cons_zero, List.set_cons_succ, i64_w, i32_w]; rfl)
  refine join_ (σ := Value × Value × Value × Bool × Bool × Value × Value × Value × Value × Bool) 7 (bl 39 16072572927) (fun x => [(23, x.1), (24, x.2.1), (25, x.2.2.1), (26, .bool x.2.2.2.1), (27, .bool x.2.2.2.2.1), (28, x.2.2.2.2.2.1), (29, x.2.2.2.2.2.2.1), (30, x.2.2.2.2.2.2.2.1), (31, x.2.2.2.2.2.2.2.2.1), (32, .bool x.2.2.2.2.2.2.2.2.2)]) (fun x w' => (w'.cell? ⟨w.heap.size, 0, none⟩ = some (.string n) ∧ w'.cell? ⟨w.heap.size, 1, none⟩ = some (.string s) ∧ w'.cell? ⟨w.heap.size, 2, none⟩ = some (.int .i64 rs) ∧ w'.cell? ⟨w.heap.size, 3, none⟩ = some (.int .i64 gr) ∧ w'.cell? ⟨w.heap.size, 5, none⟩ = some (.slice A5 l5.length c5) ∧ w.heap.size < w'.heap.size ∧ Tabs w' ∧ Below w.heap.size w w') ∧ x.2.2.2.2.2.2.2.2.2 = (decide (rs < 0) || decide (2 < rs) || !fg)) ?_ ?_
  rotate_left
  · intro hCont
    generalize hd0 : decide (rs < 0) = d0
    cases d0 with
    | true =>
      refine pure_ (i := 15) (N := some 23) (v := undef) (a' := ?_) (bl 39 16039084031) rfl rfl (by kernel_rfl) (fun _ _ _ h => h) (Or.inr ⟨by rfl, rfl⟩) ?_ ?_; rotate_left
      · (simp only [Act.put, List.setIfInBounds_toArray, List.set_cons_zero, List.set_cons_succ, i64_w, i32_w]; rfl)
      refine pure_ (i := 16) (N := some 24) (v := undef) (a' := ?_) (bl 39 16039149567) rfl rfl (by kernel_rfl) (fun _ _ _ h => h) (Or.inr ⟨by rfl, rfl⟩) ?_ ?_; rotate_left
      · (simp only [Act.put, List.setIfInBounds_toArray, List.set_cons_zero, List.set_cons_succ, i64_w, i32_w]; rfl)
      refine pure_ (i := 17) (N := some 25) (v := undef) (a' := ?_) (bl 39 16039280639) rfl rfl (by kernel_rfl) (fun _ _ _ h => h) (Or.inr ⟨by rfl, rfl⟩) ?_ ?_; rotate_left
      · (simp only [Act.put, List.setIfInBounds_toArray, List.set_cons_zero, List.set_cons_succ, i64_w, i32_w]; rfl)
      refine pure_ (i := 18) (N := some 26) (v := ?_) (a' := ?_) (bl 39 16039542783) rfl rfl (by kernel_rfl) (fun _ _ _ h => h) (Or.inl ⟨by rfl, ?_⟩) ?_ ?_; rotate_left
      · (intro w'; go_simp; with_reducible rfl)
      rotate_left
      · (simp only [Act.put, List.setIfInBounds_toArray, List.set_cons_zero, List.set_cons_succ, i64_w, i32_w]; rfl)
      refine pure_ (i := 19) (N := some 27) (v := ?_) (a' := ?_) (bl 39 16040067071) rfl rfl (by kernel_rfl) (fun _ _ _ h => h) (Or.inl ⟨by rfl, ?_⟩) ?_ ?_; rotate_left
      · (intro w'; go_simp; with_reducible rfl)
      rotate_left
      · (simp only [Act.put, List.setIfInBounds_toArray, List.set_cons_zero, List.set_cons_succ, i64_w, i32_w]; rfl)
      refine pure_ (i := 20) (N := some 28) (v := undef) (a' := ?_) (bl 39 16041115647) rfl rfl (by kernel_rfl) (fun _ _ _ h => h) (Or.inr ⟨by rfl, rfl⟩) ?_ ?_; rotate_left
      · (simp only [Act.put, List.setIfInBounds_toArray, List.set_cons_zero, List.set_cons_succ, i64_w, i32_w]; rfl)
      refine pure_ (i := 21) (N := some 29) (v := undef) (a' := ?_) (bl 39 16043212799) rfl rfl (by kernel_rfl) (fun _ _ _ h => h) (Or.inr ⟨by rfl, rfl⟩) ?_ ?_; rotate_left
      · (simp only [Act.put, List.setIfInBounds_toArray, List.set_cons_zero, List.set_cons_succ, i64_w, i32_w]; rfl)
      refine pure_ (i := 22) (N := some 30) (v := undef) (a' := ?_) (bl 39 16047407103) rfl rfl (by kernel_rfl) (fun _ _ _ h => h) (Or.inr ⟨by rfl, rfl⟩) ?_ ?_; rotate_left
      · (simp only [Act.put, List.setIfInBounds_toArray, List.set_cons_zero, List.set_cons_succ, i64_w, i32_w]; rfl)
      refine pure_ (i := 23) (N := some 31) (v := undef) (a' := ?_) (bl 39 16055795711) rfl rfl (by kernel_rfl) (fun _ _ _ h => h) (Or.inr ⟨by rfl, rfl⟩) ?_ ?_; rotate_left
      · (simp only [Act.put, List.setIfInBounds_toArray, List.set_cons_zero, List.set_cons_succ, i64_w, i32_w]; rfl)
      refine pure_ (i := 24) (N := some 32) (v := ?_) (a' := ?_) (bl 39 16072572927) rfl rfl (by kernel_rfl) (fun _ _ _ h => h) (Or.inl ⟨by rfl, ?_⟩) ?_ ?_; rotate_left
      · (intro w'; go_simp; with_reducible rfl)
      rotate_left
      · (simp only [Act.put, List.setIfInBounds_toArray, List.set_cons_zero, List.set_cons_succ, i64_w, i32_w]; rfl)
      exact norm_ (by simp only [hd0, putAll, Act.put, List.setIfInBounds_toArray, List.set_cons_zero, List.set_cons_succ]) (hCont (undef, undef, undef, true, true, undef, undef, undef, undef, true) _ ⟨hHeld, by rw [hd0]; rfl⟩)
    | false =>
      rcases Bool.eq_false_or_eq_true (decide (2 < rs)) with hd2 | hd2
      · skip
        refine pure_ (i := 15) (N := some 23) (v := ?_) (a' := ?_) (bl 39 16039084031) rfl rfl (by kernel_rfl) (fun _ _ _ h => h) (Or.inl ⟨by rfl, ?_⟩) ?_ ?_; rotate_left
        · (intro w'; go_simp; with_reducible rfl)
        rotate_left
        · (simp only [Act.put, List.setIfInBounds_toArray, List.set_cons_zero, List.set_cons_succ, i64_w, i32_w]; rfl)
        refine take_ (i := 16) (N := some 24) (v := ?_) (a' := ?_) (bl 39 16039149567) rfl rfl (by kernel_rfl) (fun _ _ _ h => h) (Or.inl ⟨by rfl, ?_⟩) hHeld ?_ ?_; rotate_left
        · (rintro w' ⟨s0, s1, s2, s3, s4, s5, s6, s7⟩; go_simp; with_reducible rfl)
        rotate_left
        · (simp only [Act.put, List.setIfInBounds_toArray, List.set_cons_zero, List.set_cons_succ, i64_w, i32_w]; rfl)
        refine pure_ (i := 17) (N := some 25) (v := ?_) (a' := ?_) (bl 39 16039280639) rfl rfl (by kernel_rfl) (fun _ _ _ h => h) (Or.inl ⟨by rfl, ?_⟩) ?_ ?_; rotate_left
        · (intro w'; go_simp; with_reducible rfl)
        rotate_left
        · (simp only [Act.put, List.setIfInBounds_toArray, List.set_cons_zero, List.set_cons_succ, i64_w, i32_w]; rfl)
        refine pure_ (i := 18) (N := some 26) (v := ?_) (a' := ?_) (bl 39 16039542783) rfl rfl (by kernel_rfl) (fun _ _ _ h => h) (Or.inl ⟨by rfl, ?_⟩) ?_ ?_; rotate_left
        · (intro w'; go_simp; with_reducible rfl)
        rotate_left
        · (simp only [Act.put, List.setIfInBounds_toArray, List.set_cons_zero, List.set_cons_succ, i64_w, i32_w]; rfl)
        refine pure_ (i := 19) (N := some 27) (v := ?_) (a' := ?_) (bl 39 16040067071) rfl rfl (by kernel_rfl) (fun _ _ _ h => h) (Or.inl ⟨by rfl, ?_⟩) ?_ ?_; rotate_left
        · (intro w'; go_simp; with_reducible rfl)
        rotate_left
        · (simp only [Act.put, List.setIfInBounds_toArray, List.set_cons_zero, List.set_cons_succ, i64_w, i32_w]; rfl)
        refine pure_ (i := 20) (N := some 28) (v := undef) (a' := ?_) (bl 39 16041115647) rfl rfl (by kernel_rfl) (fun _ _ _ h => h) (Or.inr ⟨by rfl, rfl⟩) ?_ ?_; rotate_left
        · (simp only [Act.put, List.setIfInBounds_toArray, List.set_cons_zero, List.set_cons_succ, i64_w, i32_w]; rfl)
        refine pure_ (i := 21) (N := some 29) (v := undef) (a' := ?_) (bl 39 16043212799) rfl rfl (by kernel_rfl) (fun _ _ _ h => h) (Or.inr ⟨by rfl, rfl⟩) ?_ ?_; rotate_left
        · (simp only [Act.put, List.setIfInBounds_toArray, List.set_cons_zero, List.set_cons_succ, i64_w, i32_w]; rfl)
        refine pure_ (i := 22) (N := some 30) (v := undef) (a' := ?_) (bl 39 16047407103) rfl rfl (by kernel_rfl) (fun _ _ _ h => h) (Or.inr ⟨by rfl, rfl⟩) ?_ ?_; rotate_left
        · (simp only [Act.put, List.setIfInBounds_toArray, List.set_cons_zero, List.set_cons_succ, i64_w, i32_w]; rfl)
        refine pure_ (i := 23) (N := some 31) (v := undef) (a' := ?_) (bl 39 16055795711) rfl rfl (by kernel_rfl) (fun _ _ _ h => h) (Or.inr ⟨by rfl, rfl⟩) ?_ ?_; rotate_left
        · (simp only [Act.put, List.setIfInBounds_toArray, List.set_cons_zero, List.set_cons_succ, i64_w, i32_w]; rfl)
        refine pure_ (i := 24) (N := some 32) (v := ?_) (a' := ?_) (bl 39 16072572927) rfl rfl (by kernel_rfl) (fun _ _ _ h => h) (Or.inl ⟨by rfl, ?_⟩) ?_ ?_; rotate_left
        · (intro w'; go_simp; with_reducible rfl)
        rotate_left
        · (simp only [Act.put, List.setIfInBounds_toArray, List.set_cons_zero, List.set_cons_succ, i64_w, i32_w]; rfl)
        exact norm_ (by simp only [hd0, putAll, Act.put, List.setIfInBounds_toArray, List.set_cons_zero, List.set_cons_succ]) (hCont (.pointer (some ⟨w.heap.size, 2, none⟩), .int .i64 rs, .bool true, true, true, undef, undef, undef, undef, true) _ ⟨hHeld, by rw [hd0, hd2]; rfl⟩)
      · skip
        refine pure_ (i := 15) (N := some 23) (v := ?_) (a' := ?_) (bl 39 16039084031) rfl rfl (by kernel_rfl) (fun _ _ _ h => h) (Or.inl ⟨by rfl, ?_⟩) ?_ ?_; rotate_left
        · (intro w'; go_simp; with_reducible rfl)
        rotate_left
        · (simp only [Act.put, List.setIfInBounds_toArray, List.set_cons_zero, List.set_cons_succ, i64_w, i32_w]; rfl)
        refine take_ (i := 16) (N := some 24) (v := ?_) (a' := ?_) (bl 39 16039149567) rfl rfl (by kernel_rfl) (fun _ _ _ h => h) (Or.inl ⟨by rfl, ?_⟩) hHeld ?_ ?_; rotate_left
        · (rintro w' ⟨s0, s1, s2, s3, s4, s5, s6, s7⟩; go_simp; with_reducible rfl)
        rotate_left
        · (simp only [Act.put, List.setIfInBounds_toArray, List.set_cons_zero, List.set_cons_succ, i64_w, i32_w]; rfl)
        refine pure_ (i := 17) (N := some 25) (v := ?_) (a' := ?_) (bl 39 16039280639) rfl rfl (by kernel_rfl) (fun _ _ _ h => h) (Or.inl ⟨by rfl, ?_⟩) ?_ ?_; rotate_left
        · (intro w'; go_simp; with_reducible rfl)
        rotate_left
        · (simp only [Act.put, List.setIfInBounds_toArray, List.set_cons_zero, List.set_cons_succ, i64_w, i32_w]; rfl)
        refine pure_ (i := 18) (N := some 26) (v := ?_) (a' := ?_) (bl 39 16039542783) rfl rfl (by kernel_rfl) (fun _ _ _ h => h) (Or.inl ⟨by rfl, ?_⟩) ?_ ?_; rotate_left
        · (intro w'; go_simp; with_reducible rfl)
        rotate_left
        · (simp only [Act.put, List.setIfInBounds_toArray, List.set_cons_zero, List.set_cons_succ, i64_w, i32_w]; rfl)
        refine pure_ (i := 19) (N := some 27) (v := ?_) (a' := ?_) (bl 39 16040067071) rfl rfl (by kernel_rfl) (fun _ _ _ h => h) (Or.inl ⟨by rfl, ?_⟩) ?_ ?_; rotate_left
        · (intro w'; go_simp; with_reducible rfl)
        rotate_left
        · (simp only [Act.put, List.setIfInBounds_toArray, List.set_cons_zero, List.set_cons_succ, i64_w, i32_w]; rfl)
        refine pure_ (i := 20) (N := some 28) (v := ?_) (a' := ?_) (bl 39 16041115647) rfl rfl (by kernel_rfl) (fun _ _ _ h => h) (Or.inl ⟨by rfl, ?_⟩) ?_ ?_; rotate_left
        · (intro w'; go_simp; with_reducible rfl)
        rotate_left
        · (simp only [Act.put, List.setIfInBounds_toArray, List.set_cons_zero, List.set_cons_succ, i64_w, i32_w]; rfl)
        refine take_ (i := 21) (N := some 29) (v := ?_) (a' := ?_) (bl 39 16043212799) rfl rfl (by kernel_rfl) (fun _ _ _ h => h) (Or.inl ⟨by rfl, ?_⟩) hHeld ?_ ?_; rotate_left
        · (rintro w' ⟨s0, s1, s2, s3, s4, s5, s6, s7⟩; go_simp; with_reducible rfl)
        rotate_left
        · (simp only [Act.put, List.setIfInBounds_toArray, List.set_cons_zero, List.set_cons_succ, i64_w, i32_w]; rfl)
        refine one_ (i := 22) (N := some 30) (bl 39 16047407103) rfl rfl (by kernel_rfl) (by decide) (fun K hK => ?_)
        refine goes_ Tryz.func122 (by kernel_rfl) rfl #[.int .i64 gr, .int .i64 3600] (by rfl) rfl rfl (by simp only [List.map_toArray, List.map_cons, List.map_nil]; rfl) ?_
        with_reducible refine (cG _).mono ?_
        rintro e w3 ⟨rfl, hb⟩
        refine ⟨_, rfl, ?_⟩
        refine hK.out _ _ (PC_later hHeld hb.below) (fun hNow => ?_)
        clear hK K hHeld
        have hHeld := hNow
        clear hNow
        refine norm_ (a' := ?_) ?_ ?_
        rotate_left
        · show Act.put _ (some 30) _ = _
          simp only [Act.put, List.setIfInBounds_toArray, List.set_cons_zero, List.set_cons_succ, i64_w, i32_w]
          rfl
        refine pure_ (i := 23) (N := some 31) (v := ?_) (a' := ?_) (bl 39 16055795711) rfl rfl (by kernel_rfl) (fun _ _ _ h => h) (Or.inl ⟨by rfl, ?_⟩) ?_ ?_; rotate_left
        · (intro w'; go_simp; with_reducible rfl)
        rotate_left
        · (simp only [Act.put, List.setIfInBounds_toArray, List.set_cons_zero, List.set_cons_succ, i64_w, i32_w]; rfl)
        refine pure_ (i := 24) (N := some 32) (v := ?_) (a' := ?_) (bl 39 16072572927) rfl rfl (by kernel_rfl) (fun _ _ _ h => h) (Or.inl ⟨by rfl, ?_⟩) ?_ ?_; rotate_left
        · (intro w'; go_simp; with_reducible rfl)
        rotate_left
        · (simp only [Act.put, List.setIfInBounds_toArray, List.set_cons_zero, List.set_cons_succ, i64_w, i32_w]; rfl)
        exact norm_ (by simp only [hd0, putAll, Act.put, List.setIfInBounds_toArray, List.set_cons_zero, List.set_cons_succ]) (hCont (.pointer (some ⟨w.heap.size, 2, none⟩), .int .i64 rs, .bool false, false, false, .pointer (some ⟨w.heap.size, 3, none⟩), .int .i64 gr, .bool fg, .bool (!fg), !fg) _ ⟨hHeld, by rw [hd0, hd2]; rfl⟩)
  rintro ⟨v23, v24, v25, b26, b27, v28, v29, v30, v31, b32⟩ wq ⟨hNow, hb32⟩
  dsimp only at hb32
  subst hb32
  clear hHeld
  have hHeld := hNow
  clear hNow
  generalize hb32 : (decide (rs < 0) || decide (2 < rs) || !fg) = b32
  have HB32 := Aside0.mk hb32
  clear hb32
  refine norm_ (a' := ?_) ?_ ?_
  rotate_left
  · simp only [putAll, Act.put, List.setIfInBounds_toArray, List.set_cons_zero, List.set_cons_succ]
    rfl
  refine one_ (i := 25) (N := some 33) (bl 39 16106127359) rfl rfl (by kernel_rfl) (by decide) (fun K hK => ?_)
  refine goes_ Tryz.func121 (by kernel_rfl) rfl #[.bool b32, .int .i64 7] (by rfl) rfl rfl (by simp only [List.map_toArray, List.map_cons, List.map_nil]; rfl) ?_
  with_reducible refine (cWhenP b32 7 _).mono ?_
  rintro e w5 ⟨rfl, hb⟩
  refine ⟨_, rfl, ?_⟩
  refine hK.out _ _ (PC_later hHeld hb.below) (fun hNow => ?_)
  clear hK K hHeld
  have hHeld := hNow
  clear hNow
  refine norm_ (a' := ?_) ?_ ?_
  rotate_left
  · show Act.put _ (some 33) _ = _
    simp only [Act.put, List.setIfInBounds_toArray, List.set_cons_zero, List.set_cons_succ, i64_w, i32_w]
    rfl
  refine one_ (i := 30) (N := some 38) (bl 39 17179869183) rfl rfl (by kernel_rfl) (by decide) (fun K hK => ?_)
  refine goes_ Tryz.func121 (by kernel_rfl) rfl #[.bool ((l5.length : Int) == 0), .int .i64 16] (by rfl) rfl rfl (by simp only [List.map_toArray, List.map_cons, List.map_nil]; rfl) ?_
  with_reducible refine (cWhenP ((l5.length : Int) == 0) 16 _).mono ?_
  rintro e w6 ⟨rfl, hb⟩
  refine ⟨_, rfl, ?_⟩
  refine hK.out _ _ (PC_later hHeld hb.below) (fun hNow => ?_)
  clear hK K hHeld
  have hHeld := hNow
  clear hNow
  refine norm_ (a' := ?_) ?_ ?_
  rotate_left
  · show Act.put _ (some 38) _ = _
    simp only [Act.put, List.setIfInBounds_toArray, List.set_cons_zero, List.set_cons_succ, i64_w, i32_w]
    rfl
  refine one_ (i := 34) (N := some 42) (bl 39 34359738367) rfl rfl (by kernel_rfl) (by decide) (fun K hK => ?_)
  refine goes_ Tryz.func123 (by kernel_rfl) rfl #[.int .i64 (l5.length : Int)] (by rfl) rfl rfl (by simp only [List.map_toArray, List.map_cons, List.map_nil]; rfl) ?_
  with_reducible refine (cMany l5.length _).mono ?_
  rintro e w7 ⟨rfl, hb⟩
  refine ⟨_, rfl, ?_⟩
  refine hK.out _ _ (PC_later hHeld hb.below) (fun hNow => ?_)
  clear hK K hHeld
  have hHeld := hNow
  clear hNow
  refine norm_ (a' := ?_) ?_ ?_
  rotate_left
  · show Act.put _ (some 42) _ = _
    simp only [Act.put, List.setIfInBounds_toArray, List.set_cons_zero, List.set_cons_succ, i64_w, i32_w]
    rfl
  refine one_ (i := 35) (N := some 43) (bl 39 68719476735) rfl rfl (by kernel_rfl) (by decide) (fun K hK => ?_)
  refine goes_ Tryz.func121 (by kernel_rfl) rfl #[.bool (manyP l5.length), .int .i64 18] (by rfl) rfl rfl (by simp only [List.map_toArray, List.map_cons, List.map_nil]; rfl) ?_
  with_reducible refine (cWhenP (manyP l5.length) 18 _).mono ?_
  rintro e w8 ⟨rfl, hb⟩
  refine ⟨_, rfl, ?_⟩
  refine hK.out _ _ (PC_later hHeld hb.below) (fun hNow => ?_)
  clear hK K hHeld
  have hHeld := hNow
  clear hNow
  refine norm_ (a' := ?_) ?_ ?_
  rotate_left
  · show Act.put _ (some 43) _ = _
    simp only [Act.put, List.setIfInBounds_toArray, List.set_cons_zero, List.set_cons_succ, i64_w, i32_w]
    rfl
  refine one_ (i := 36) (N := some 44) (bl 39 137438953471) rfl rfl (by kernel_rfl) (by decide) (fun K hK => ?_)
  refine value_ (w1 := ?_) (v := ?_) (by rfl) rfl ?_ ?_
  rotate_left 2
  · go_simp
    constructor
    · rfl
    · rfl
  refine hK.out _ _ (PC_later hHeld ((Below.refl _ _).alloc (Nat.le_refl _) _)) (fun hNow => ?_)
  clear hK K hHeld
  have hHeld := hNow
  clear hNow
  refine norm_ (a' := ?_) ?_ ?_
  rotate_left
  · show Act.put _ (some 44) _ = _
    simp only [Act.put, List.setIfInBounds_toArray, List.set_cons_zero, List.set_cons_succ, i64_w, i32_w]
    rfl
  refine one_ (i := 37) (N := some 45) (bl 39 274877906943) rfl rfl (by kernel_rfl) (by decide) (fun K hK => ?_)
  refine goes_ Tryz.func120 (by kernel_rfl) rfl #[.slice (some ⟨_, 0, none⟩) 4 4] (by rfl) rfl rfl (by simp only [List.map_toArray, List.map_cons, List.map_nil]; rfl) ?_
  with_reducible refine (cFirst4 _ _ _ _ _ _ 29 (first4 _ _ _ _ 7 (by omega))).mono ?_
  rintro e w9 ⟨rfl, hb⟩
  refine ⟨_, rfl, ?_⟩
  refine hK.out _ _ (PC_later hHeld hb.below) (fun hNow => ?_)
  clear hK K hHeld
  have hHeld := hNow
  clear hNow
  refine norm_ (a' := ?_) ?_ ?_
  rotate_left
  · show Act.put _ (some 45) _ = _
    simp only [Act.put, List.setIfInBounds_toArray, List.set_cons_zero, List.set_cons_succ, i64_w, i32_w]
    rfl
  refine pure_ (i := 38) (N := some 3) (v := ?_) (a' := ?_) (bl 39 549755813887) rfl rfl (by kernel_rfl) (fun _ _ _ h => h) (Or.inl ⟨by rfl, ?_⟩) ?_ ?_; rotate_left
  · (intro w'; go_simp; with_reducible rfl)
  rotate_left
  · (simp only [Act.put, List.setIfInBounds_toArray, List.set_cons_zero, List.set_cons_succ, i64_w, i32_w]; rfl)
  refine done_ (by kernel_rfl) ?_
  have HE := Aside0.mk (show orP (whenP b17 13) (orP (whenP b32 7) (orP (whenP ((l5.length : Int) == 0) 16) (whenP (manyP l5.length) 18))) = headP n s rs gr l5.length from by rw [HH.out, HB17.out, HB32.out])
  have HB := Aside0.mk hHeld.2.2.2.2.2.2.2
  have hcS := hHeld.2.2.2.2.1
  clear cN cL cG HH HB17 HB32 HS HQ hHeld
  generalize orP (whenP b17 13) (orP (whenP b32 7) (orP (whenP ((l5.length : Int) == 0) 16) (whenP (manyP l5.length) 18))) = r0 at HE ⊢
  by_cases h0 : r0 = 0
  case neg =>
    have hz0 : (r0 == 0) = false := beq_eq_false_iff_ne.2 h0
    have hz1 : (r0 != 0) = true := bne_iff_ne.2 h0
    have HF := Aside0.mk (show podP n s rs gr l5 = r0 from by unfold podP; rw [← HE.out]; unfold orP; rw [if_neg h0])
    clear h0 HE
    go_wp2_with fail
    go_ret
    exact ⟨by rw [HF.out]; rfl, HB.out⟩
  case pos =>
    have HF := Aside0.mk (show podP n s rs gr l5 = contsP [] l5 from by unfold podP; rw [← HE.out, h0]; rfl)
    clear HE
    subst h0
    have hmm := @run_makeMap Tryz.prog
    have hbm := (Below.refl w9.heap.size w9).alloc (Nat.le_refl _) (.map #[] 0)
    have hB9 := HB.out
    have hcM : (w9.alloc (.map #[] 0)).cell? ⟨w.heap.size, 5, none⟩ = some (.slice A5 l5.length c5) := cell_moved (B := 0) hbm hcS
    have HBm := Aside0.mk (below_step hB9 hbm)
    have HCm := Aside0.mk (Cnt.start (K := 9) (kl := klS) (ok := okS) w9)
    have HLm := Aside0.mk hB9.size
    clear hbm hB9 hcS HB
    go_wp2_with fail
    generalize hmb : w9.heap.size = mb at HCm HLm ⊢
    generalize w9.alloc (.map #[] 0) = W1 at HBm HCm hcM ⊢
    clear hcM hmb hmm
    go_loopw [53] (fun v53 wr => ∃ j : Nat, v53 = .int .i64 (j : Int) ∧ j ≤ l5.length ∧ Aside0 (contsP ((l5.take j).map S104.f0) (l5.drop j) = contsP [] l5) ∧ Aside0 (Cnt 9 klS okS mb j ((l5.take j).map S104.f0) wr) ∧ Aside0 (Below w.heap.size w wr)) (fun v53 _ => l5.length - (intOf v53).toNat)
    case atStart => exact ⟨0, rfl, Nat.zero_le _, Aside0.mk rfl, HCm, HBm⟩
    case round =>
      clear HBm HCm
      obtain ⟨j, rfl, hj, HE3, HC, HB⟩ := hrel
      by_cases hlt : j < l5.length
      · have hlt2 : (j : Int) < (l5.length : Int) := by omega
        have hj0 : (0 : Int) ≤ (j : Int) := by omega
        obtain ⟨ad, A2, c2, A3, c3, A6, c6, ea, k0, k1, k2, k3, k4, k5, k6, g2, q2, g3, q3, g6, q6⟩ := at_T104 H5.out (j : Int) hj0 hlt2
        subst ea
        rw [Int.toNat_natCast] at k0 k1 k2 k3 k4 k5 k6
        replace k0 := cell_moved (B := 0) HB.out k0
        replace k1 := cell_moved (B := 0) HB.out k1
        replace k2 := cell_moved (B := 0) HB.out k2
        replace k3 := cell_moved (B := 0) HB.out k3
        replace k4 := cell_moved (B := 0) HB.out k4
        replace k5 := cell_moved (B := 0) HB.out k5
        replace k6 := cell_moved (B := 0) HB.out k6
        have hrd : rd_T104 l5 (j : Int) = l5[j] := by simp [rd_T104, List.getD, List.getElem?_eq_getElem hlt]
        have hok : SmC (rd_T104 l5 (j : Int)) := by rw [hrd]; exact S5.out _ (List.getElem_mem hlt)
        have hE4 : contsP ((l5.take j).map S104.f0) (l5.drop j) = if contE ((l5.take j).map S104.f0) (rd_T104 l5 (j : Int)) = 0 then contsP ((l5.take (j + 1)).map S104.f0) (l5.drop (j + 1)) else contE ((l5.take j).map S104.f0) (rd_T104 l5 (j : Int)) := by
          rw [List.drop_eq_getElem_cons hlt, hrd, List.take_succ_eq_append_getElem hlt, List.map_append]; rfl
        have htk : (l5.take (j + 1)).map S104.f0 = (l5.take j).map S104.f0 ++ [(rd_T104 l5 (j : Int)).f0] := by rw [hrd, List.take_succ_eq_append_getElem hlt, List.map_append]; rfl
        have HPE := Aside0.mk (show contE ((l5.take j).map S104.f0) (rd_T104 l5 (j : Int)) = orP (orP (whenP (!labelP (rd_T104 l5 (j : Int)).f0) 13) (orP (whenP (decide (0 < cntOf ((l5.take j).map S104.f0) (rd_T104 l5 (j : Int)).f0)) 8) (orP (whenP (!imageP (rd_T104 l5 (j : Int)).f1) 6) (orP (whenP (manyP (rd_T104 l5 (j : Int)).f2.length || manyP (rd_T104 l5 (j : Int)).f3.length || manyP (rd_T104 l5 (j : Int)).f6.length) 18) (whenP (!fromP (rd_T104 l5 (j : Int)).f4 64000 || !fromP (rd_T104 l5 (j : Int)).f5 1048576) 7))))) (partsP (rd_T104 l5 (j : Int)).f2 (rd_T104 l5 (j : Int)).f3 (rd_T104 l5 (j : Int)).f6) from rfl)
        clear hrd
        generalize rd_T104 l5 (j : Int) = c at k0 k1 k2 k3 k4 k5 k6 g2 q2 g3 q3 g6 q6 hok hE4 htk HPE ⊢
        have HK := Aside0.mk htk
        have HG := Aside0.mk (And.intro g2 (And.intro q2 (And.intro g3 (And.intro q3 (And.intro g6 q6)))))
        replace HE3 := Aside0.mk (hE4.symm.trans HE3.out)
        clear hE4 htk g2 q2 g3 q3 g6 q6
        have hba := (Below.refl wr.heap.size wr).alloc (Nat.le_refl _) (.cells #[.string c.f0, .string c.f1, .slice A2 c.f2.length c2, .slice A3 c.f3.length c3, .int .i64 c.f4, .int .i64 c.f5, .slice A6 c.f6.length c6] 104)
        have hX0 := (newCell wr #[.string c.f0, .string c.f1, .slice A2 c.f2.length c2, .slice A3 c.f3.length c3, .int .i64 c.f4, .int .i64 c.f5, .slice A6 c.f6.length c6] 104 0 (.string c.f0) rfl).1
        have hX1 := (newCell wr #[.string c.f0, .string c.f1, .slice A2 c.f2.length c2, .slice A3 c.f3.length c3, .int .i64 c.f4, .int .i64 c.f5, .slice A6 c.f6.length c6] 104 1 (.string c.f1) rfl).1
        have hX2 := (newCell wr #[.string c.f0, .string c.f1, .slice A2 c.f2.length c2, .slice A3 c.f3.length c3, .int .i64 c.f4, .int .i64 c.f5, .slice A6 c.f6.length c6] 104 2 (.slice A2 c.f2.length c2) rfl).1
        have hX3 := (newCell wr #[.string c.f0, .string c.f1, .slice A2 c.f2.length c2, .slice A3 c.f3.length c3, .int .i64 c.f4, .int .i64 c.f5, .slice A6 c.f6.length c6] 104 3 (.slice A3 c.f3.length c3) rfl).1
        have hX4 := (newCell wr #[.string c.f0, .string c.f1, .slice A2 c.f2.length c2, .slice A3 c.f3.length c3, .int .i64 c.f4, .int .i64 c.f5, .slice A6 c.f6.length c6] 104 4 (.int .i64 c.f4) rfl).1
        have hX5 := (newCell wr #[.string c.f0, .string c.f1, .slice A2 c.f2.length c2, .slice A3 c.f3.length c3, .int .i64 c.f4, .int .i64 c.f5, .slice A6 c.f6.length c6] 104 5 (.int .i64 c.f5) rfl).1
        have hX6 := (newCell wr #[.string c.f0, .string c.f1, .slice A2 c.f2.length c2, .slice A3 c.f3.length c3, .int .i64 c.f4, .int .i64 c.f5, .slice A6 c.f6.length c6] 104 6 (.slice A6 c.f6.length c6) rfl).1
        have hpb : wr.heap.size < (wr.alloc (.cells #[.string c.f0, .string c.f1, .slice A2 c.f2.length c2, .slice A3 c.f3.length c3, .int .i64 c.f4, .int .i64 c.f5, .slice A6 c.f6.length c6] 104)).heap.size := by simp
        have HC2 := HC.out.later hba
        have hB2 := below_step HB.out hba
        have hmb : mb < wr.heap.size := HC.out.lt
        have hokq : okS c.f0 := Nat.le_trans hok.1 (by unfold maxLen; omega)
        have hcnt : cntOf ((l5.take j).map S104.f0) c.f0 ≤ j := Nat.le_trans (cntOf_le _ _) (by rw [List.length_map, List.length_take]; omega)
        have hlk0 := HC2.look lawS hokq
        obtain ⟨w2, hup, hC3, hg2⟩ := HC2.update lawS isKeyS (by unfold maxLen; omega) hokq rfl (WalkArith.wf_i64 (by omega))
        have hCN : cntOf ((l5.take (j + 1)).map S104.f0) c.f0 = cntOf ((l5.take j).map S104.f0) c.f0 + 1 := by rw [HK.out, count_snoc, if_pos rfl]
        replace hC3 : Cnt 9 klS okS mb (j + 1) ((l5.take (j + 1)).map S104.f0) w2 := HK.out ▸ hC3
        generalize cntOf ((l5.take j).map S104.f0) c.f0 = cn at hcnt hlk0 hup hCN HPE
        have hwc : wrap64 ((cn : Int) + 1) = (cn : Int) + 1 := by unfold wrap64; omega
        have hnm : some wr.heap.size ≠ some mb := by intro e; cases e; omega
        have hd2 : Below w2.heap.size w2 w2.drew := ⟨rfl, rfl, rfl, Nat.le_refl _, fun _ _ => rfl⟩
        have hlk2 : (Instr.lookup 198 (.map (some mb)) (.string c.f0) false).run Tryz.prog w2 = .ok (.int .i64 ((cn : Int) + 1)) w2 := by
          have := hC3.look lawS hokq
          rw [hCN] at this
          exact this
        have hB3 := hB2.grown hg2 hB2.size (fun k e => by cases e; exact HLm.out)
        have HQ := Aside0.mk (show ((cntOf ((l5.take (j + 1)).map S104.f0) c.f0 : Nat) : Int) = (cn : Int) + 1 from by rw [hCN]; omega)
        have HO := Aside0.mk hokq
        have HS := Aside0.mk (PD_later hokq HQ.out (And.intro (hg2.cell hX0 hnm) (And.intro (hg2.cell hX1 hnm) (And.intro (hg2.cell hX2 hnm) (And.intro (hg2.cell hX3 hnm) (And.intro (hg2.cell hX4 hnm) (And.intro (hg2.cell hX5 hnm) (And.intro (hg2.cell hX6 hnm) (And.intro hlk2 (And.intro hC3 (And.intro (Nat.lt_of_lt_of_le hpb hg2.size) (And.intro (HT.out.below hB3) hB3))))))))))) hd2)
        have HOK := Aside0.mk hok
        clear hg2 hC3 HC2 hba hmb hpb hX1 hX2 hX3 hX4 hX5 hX6 hB2 hCN hokq hcnt hnm hd2 hlk2 hB3 hok HC HB
        go_wp2_with fail
        clear hup hlk0 hX0 hwc k0 k1 k2 k3 k4 k5 k6
        generalize wr.heap.size = pb at HS ⊢
        have cL := fun W => cLabel c.f0 W HOK.out.1
        have cI := fun W => cImage c.f1 W HOK.out.2.1
        have cM2 := fun W => cMany c.f2.length W
        have cM3 := fun W => cMany c.f3.length W
        have cM6 := fun W => cMany c.f6.length W
        have cF4 := fun W => cFromP c.f4 64000 W
        have cF5 := fun W => cFromP c.f5 1048576 W
        replace HPE := Aside0.mk (show contE ((l5.take j).map S104.f0) c = orP (orP (whenP (!labelP c.f0) 13) (orP (whenP (decide ((1 : Int) < (cn : Int) + 1)) 8) (orP (whenP (!imageP c.f1) 6) (orP (whenP (manyP c.f2.length || manyP c.f3.length || manyP c.f6.length) 18) (whenP (!fromP c.f4 64000 || !fromP c.f5 1048576) 7))))) (partsP c.f2 c.f3 c.f6) from by
          rw [HPE.out, show decide (0 < cn) = decide ((1 : Int) < (cn : Int) + 1) from decide_eq_decide.2 (by omega)])
        generalize labelP c.f0 = lb at cL HPE
        generalize imageP c.f1 = im at cI HPE
        generalize manyP c.f2.length = m2 at cM2 HPE
        generalize manyP c.f3.length = m3 at cM3 HPE
        generalize manyP c.f6.length = m6 at cM6 HPE
        generalize fromP c.f4 64000 = f4 at cF4 HPE
        generalize fromP c.f5 1048576 = f5 at cF5 HPE
        refine start_ (n := 47) (S := fun w' => w'.cell? ⟨pb, 0, none⟩ = some (.string c.f0) ∧ w'.cell? ⟨pb, 1, none⟩ = some (.string c.f1) ∧ w'.cell? ⟨pb, 2, none⟩ = some (.slice A2 c.f2.length c2) ∧ w'.cell? ⟨pb, 3, none⟩ = some (.slice A3 c.f3.length c3) ∧ w'.cell? ⟨pb, 4, none⟩ = some (.int .i64 c.f4) ∧ w'.cell? ⟨pb, 5, none⟩ = some (.int .i64 c.f5) ∧ w'.cell? ⟨pb, 6, none⟩ = some (.slice A6 c.f6.length c6) ∧ (Instr.lookup 198 (.map (some mb)) (.string c.f0) false).run Tryz.prog w' = .ok (.int .i64 ((cn : Int) + 1)) w' ∧ Cnt 9 klS okS mb (j + 1) ((l5.take (j + 1)).map S104.f0) w' ∧ pb < w'.heap.size ∧ Tabs w' ∧ Below w.heap.size w w') (ds := []) (bl 47 0) (by kernel_rfl) rfl (by kernel_rfl) (HS.out) (fun hHeld => ?_)
        refine pure_ (i := 0) (N := some 62) (v := ?_) (a' := ?_) (bl 47 1) rfl rfl (by kernel_rfl) (fun _ _ _ h => h) (Or.inl ⟨by rfl, ?_⟩) ?_ ?_; rotate_left
        · (intro w'; go_simp; with_reducible rfl)
        rotate_left
        · (simp only [Act.put, List.setIfInBounds_toArray, List.set_cons_zero, List.set_cons_succ, i64_w, i32_w]; rfl)
        refine pure_ (i := 5) (N := some 67) (v := ?_) (a' := ?_) (bl 47 33) rfl rfl (by kernel_rfl) (fun _ _ _ h => h) (Or.inl ⟨by rfl, ?_⟩) ?_ ?_; rotate_left
        · (intro w'; go_simp; with_reducible rfl)
        rotate_left
        · (simp only [Act.put, List.setIfInBounds_toArray, List.set_cons_zero, List.set_cons_succ, i64_w, i32_w]; rfl)
        refine pure_ (i := 6) (N := some 68) (v := ?_) (a' := ?_) (bl 47 97) rfl rfl (by kernel_rfl) (fun _ _ _ h => h) (Or.inl ⟨by rfl, ?_⟩) ?_ ?_; rotate_left
        · (intro w'; go_simp; with_reducible rfl)
        rotate_left
        · (simp only [Act.put, List.setIfInBounds_toArray, List.set_cons_zero, List.set_cons_succ, i64_w, i32_w]; rfl)
        refine pure_ (i := 11) (N := some 73) (v := ?_) (a' := ?_) (bl 47 2145) rfl rfl (by kernel_rfl) (fun _ _ _ h => h) (Or.inl ⟨by rfl, ?_⟩) ?_ ?_; rotate_left
        · (intro w'; go_simp; with_reducible rfl)
        rotate_left
        · (simp only [Act.put, List.setIfInBounds_toArray, List.set_cons_zero, List.set_cons_succ, i64_w, i32_w]; rfl)
        refine pure_ (i := 16) (N := some 78) (v := ?_) (a' := ?_) (bl 47 67681) rfl rfl (by kernel_rfl) (fun _ _ _ h => h) (Or.inl ⟨by rfl, ?_⟩) ?_ ?_; rotate_left
        · (intro w'; go_simp; with_reducible rfl)
        rotate_left
        · (simp only [Act.put, List.setIfInBounds_toArray, List.set_cons_zero, List.set_cons_succ, i64_w, i32_w]; rfl)
        refine pure_ (i := 33) (N := some 95) (v := ?_) (a' := ?_) (bl 47 8590002273) rfl rfl (by kernel_rfl) (fun _ _ _ h => h) (Or.inl ⟨by rfl, ?_⟩) ?_ ?_; rotate_left
        · (intro w'; go_simp; with_reducible rfl)
        rotate_left
        · (simp only [Act.put, List.setIfInBounds_toArray, List.set_cons_zero, List.set_cons_succ, i64_w, i32_w]; rfl)
        refine take_ (i := 1) (N := some 63) (v := ?_) (a' := ?_) (bl 47 8590002275) rfl rfl (by kernel_rfl) (fun _ _ _ h => h) (Or.inl ⟨by rfl, ?_⟩) hHeld ?_ ?_; rotate_left
        · (rintro w' ⟨s0, s1, s2, s3, s4, s5, s6, s7, s8, s9, s10, s11⟩; go_simp; with_reducible rfl)
        rotate_left
        · (simp only [Act.put, List.setIfInBounds_toArray, List.set_cons_zero, List.set_cons_succ, i64_w, i32_w]; rfl)
        refine take_ (i := 7) (N := some 69) (v := ?_) (a' := ?_) (bl 47 8590002403) rfl rfl (by kernel_rfl) (fun _ _ _ h => h) (Or.inl ⟨by rfl, ?_⟩) hHeld ?_ ?_; rotate_left
        · (rintro w' ⟨s0, s1, s2, s3, s4, s5, s6, s7, s8, s9, s10, s11⟩; go_simp; with_reducible rfl)
        rotate_left
        · (simp only [Act.put, List.setIfInBounds_toArray, List.set_cons_zero, List.set_cons_succ, i64_w, i32_w]; rfl)
        refine take_ (i := 8) (N := some 70) (v := ?_) (a' := ?_) (bl 47 8590002659) rfl rfl (by kernel_rfl) (fun _ _ _ h => h) (Or.inl ⟨by rfl, ?_⟩) hHeld ?_ ?_; rotate_left
        · (rintro w' ⟨s0, s1, s2, s3, s4, s5, s6, s7, s8, s9, s10, s11⟩; go_simp; with_reducible rfl)
        rotate_left
        · (simp only [Act.put, List.setIfInBounds_toArray, List.set_cons_zero, List.set_cons_succ, i64_w, i32_w]; rfl)
        refine pure_ (i := 9) (N := some 71) (v := ?_) (a' := ?_) (bl 47 8590003171) rfl rfl (by kernel_rfl) (fun _ _ _ h => h) (Or.inl ⟨by rfl, ?_⟩) ?_ ?_; rotate_left
        · (intro w'; go_simp; with_reducible rfl)
        rotate_left
        · (simp only [Act.put, List.setIfInBounds_toArray, List.set_cons_zero, List.set_cons_succ, i64_w, i32_w]; rfl)
        refine take_ (i := 12) (N := some 74) (v := ?_) (a' := ?_) (bl 47 8590007267) rfl rfl (by kernel_rfl) (fun _ _ _ h => h) (Or.inl ⟨by rfl, ?_⟩) hHeld ?_ ?_; rotate_left
        · (rintro w' ⟨s0, s1, s2, s3, s4, s5, s6, s7, s8, s9, s10, s11⟩; go_simp; with_reducible rfl)
        rotate_left
        · (simp only [Act.put, List.setIfInBounds_toArray, List.set_cons_zero, List.set_cons_succ, i64_w, i32_w]; rfl)
        refine take_ (i := 17) (N := some 79) (v := ?_) (a' := ?_) (bl 47 8590138339) rfl rfl (by kernel_rfl) (fun _ _ _ h => h) (Or.inl ⟨by rfl, ?_⟩) hHeld ?_ ?_; rotate_left
        · (rintro w' ⟨s0, s1, s2, s3, s4, s5, s6, s7, s8, s9, s10, s11⟩; go_simp; with_reducible rfl)
        rotate_left
        · (simp only [Act.put, List.setIfInBounds_toArray, List.set_cons_zero, List.set_cons_succ, i64_w, i32_w]; rfl)
        refine pure_ (i := 18) (N := some 80) (v := ?_) (a' := ?_) (bl 47 8590400483) rfl rfl (by kernel_rfl) (fun _ _ _ h => h) (Or.inl ⟨by rfl, ?_⟩) ?_ ?_; rotate_left
        · (intro w'; go_simp; with_reducible rfl)
        rotate_left
        · (simp only [Act.put, List.setIfInBounds_toArray, List.set_cons_zero, List.set_cons_succ, i64_w, i32_w]; rfl)
        refine take_ (i := 34) (N := some 96) (v := ?_) (a' := ?_) (bl 47 25770269667) rfl rfl (by kernel_rfl) (fun _ _ _ h => h) (Or.inl ⟨by rfl, ?_⟩) hHeld ?_ ?_; rotate_left
        · (rintro w' ⟨s0, s1, s2, s3, s4, s5, s6, s7, s8, s9, s10, s11⟩; go_simp; with_reducible rfl)
        rotate_left
        · (simp only [Act.put, List.setIfInBounds_toArray, List.set_cons_zero, List.set_cons_succ, i64_w, i32_w]; rfl)
        refine one_ (i := 2) (N := some 64) (bl 47 25770269671) rfl rfl (by kernel_rfl) (by decide) (fun K hK => ?_)
        refine goes_ Tryz.func95 (by kernel_rfl) rfl #[.string c.f0] (by rfl) rfl rfl (by simp only [List.map_toArray, List.map_cons, List.map_nil]; rfl) ?_
        with_reducible refine (cL _).mono ?_
        rintro e w3 ⟨rfl, hb⟩
        refine ⟨_, rfl, ?_⟩
        refine hK.out _ _ (PD_later HO.out HQ.out hHeld hb) (fun hNow => ?_)
        clear hK K hHeld
        have hHeld := hNow
        clear hNow
        refine norm_ (a' := ?_) ?_ ?_
        rotate_left
        · show Act.put _ (some 64) _ = _
          simp only [Act.put, List.setIfInBounds_toArray, List.set_cons_zero, List.set_cons_succ, i64_w, i32_w]
          rfl
        refine pure_ (i := 3) (N := some 65) (v := ?_) (a' := ?_) (bl 47 25770269679) rfl rfl (by kernel_rfl) (fun _ _ _ h => h) (Or.inl ⟨by rfl, ?_⟩) ?_ ?_; rotate_left
        · (intro w'; go_simp; with_reducible rfl)
        rotate_left
        · (simp only [Act.put, List.setIfInBounds_toArray, List.set_cons_zero, List.set_cons_succ, i64_w, i32_w]; rfl)
        refine one_ (i := 4) (N := some 66) (bl 47 25770269695) rfl rfl (by kernel_rfl) (by decide) (fun K hK => ?_)
        refine goes_ Tryz.func121 (by kernel_rfl) rfl #[.bool (!lb), .int .i64 13] (by rfl) rfl rfl (by simp only [List.map_toArray, List.map_cons, List.map_nil]; rfl) ?_
        with_reducible refine (cWhenP (!lb) 13 _).mono ?_
        rintro e w4 ⟨rfl, hb⟩
        refine ⟨_, rfl, ?_⟩
        refine hK.out _ _ (PD_later HO.out HQ.out hHeld hb.below) (fun hNow => ?_)
        clear hK K hHeld
        have hHeld := hNow
        clear hNow
        refine norm_ (a' := ?_) ?_ ?_
        rotate_left
        · show Act.put _ (some 66) _ = _
          simp only [Act.put, List.setIfInBounds_toArray, List.set_cons_zero, List.set_cons_succ, i64_w, i32_w]
          rfl
        refine one_ (i := 10) (N := some 72) (bl 47 25770270719) rfl rfl (by kernel_rfl) (by decide) (fun K hK => ?_)
        refine goes_ Tryz.func121 (by kernel_rfl) rfl #[.bool (decide ((1 : Int) < (cn : Int) + 1)), .int .i64 8] (by rfl) rfl rfl (by simp only [List.map_toArray, List.map_cons, List.map_nil]; rfl) ?_
        with_reducible refine (cWhenP (decide ((1 : Int) < (cn : Int) + 1)) 8 _).mono ?_
        rintro e w5 ⟨rfl, hb⟩
        refine ⟨_, rfl, ?_⟩
        refine hK.out _ _ (PD_later HO.out HQ.out hHeld hb.below) (fun hNow => ?_)
        clear hK K hHeld
        have hHeld := hNow
        clear hNow
        refine norm_ (a' := ?_) ?_ ?_
        rotate_left
        · show Act.put _ (some 72) _ = _
          simp only [Act.put, List.setIfInBounds_toArray, List.set_cons_zero, List.set_cons_succ, i64_w, i32_w]
          rfl
        refine one_ (i := 13) (N := some 75) (bl 47 25770278911) rfl rfl (by kernel_rfl) (by decide) (fun K hK => ?_)
        refine goes_ Tryz.func92 (by kernel_rfl) rfl #[.string c.f1] (by rfl) rfl rfl (by simp only [List.map_toArray, List.map_cons, List.map_nil]; rfl) ?_
        with_reducible refine (cI _).mono ?_
        rintro e w6 ⟨rfl, hb⟩
        refine ⟨_, rfl, ?_⟩
        refine hK.out _ _ (PD_later HO.out HQ.out hHeld hb) (fun hNow => ?_)
        clear hK K hHeld
        have hHeld := hNow
        clear hNow
        refine norm_ (a' := ?_) ?_ ?_
        rotate_left
        · show Act.put _ (some 75) _ = _
          simp only [Act.put, List.setIfInBounds_toArray, List.set_cons_zero, List.set_cons_succ, i64_w, i32_w]
          rfl
        refine pure_ (i := 14) (N := some 76) (v := ?_) (a' := ?_) (bl 47 25770295295) rfl rfl (by kernel_rfl) (fun _ _ _ h => h) (Or.inl ⟨by rfl, ?_⟩) ?_ ?_; rotate_left
        · (intro w'; go_simp; with_reducible rfl)
        rotate_left
        · (simp only [Act.put, List.setIfInBounds_toArray, List.set_cons_zero, List.set_cons_succ, i64_w, i32_w]; rfl)
        refine one_ (i := 15) (N := some 77) (bl 47 25770328063) rfl rfl (by kernel_rfl) (by decide) (fun K hK => ?_)
        refine goes_ Tryz.func121 (by kernel_rfl) rfl #[.bool (!im), .int .i64 6] (by rfl) rfl rfl (by simp only [List.map_toArray, List.map_cons, List.map_nil]; rfl) ?_
        with_reducible refine (cWhenP (!im) 6 _).mono ?_
        rintro e w7 ⟨rfl, hb⟩
        refine ⟨_, rfl, ?_⟩
        refine hK.out _ _ (PD_later HO.out HQ.out hHeld hb.below) (fun hNow => ?_)
        clear hK K hHeld
        have hHeld := hNow
        clear hNow
        refine norm_ (a' := ?_) ?_ ?_
        rotate_left
        · show Act.put _ (some 77) _ = _
          simp only [Act.put, List.setIfInBounds_toArray, List.set_cons_zero, List.set_cons_succ, i64_w, i32_w]
          rfl
        refine one_ (i := 19) (N := some 81) (bl 47 25770852351) rfl rfl (by kernel_rfl) (by decide) (fun K hK => ?_)
        refine goes_ Tryz.func123 (by kernel_rfl) rfl #[.int .i64 (c.f2.length : Int)] (by rfl) rfl rfl (by simp only [List.map_toArray, List.map_cons, List.map_nil]; rfl) ?_
        with_reducible refine (cM2 _).mono ?_
        rintro e w8 ⟨rfl, hb⟩
        refine ⟨_, rfl, ?_⟩
        refine hK.out _ _ (PD_later HO.out HQ.out hHeld hb.below) (fun hNow => ?_)
        clear hK K hHeld
        have hHeld := hNow
        clear hNow
        refine norm_ (a' := ?_) ?_ ?_
        rotate_left
        · show Act.put _ (some 81) _ = _
          simp only [Act.put, List.setIfInBounds_toArray, List.set_cons_zero, List.set_cons_succ, i64_w, i32_w]
          rfl
        refine pure_ (i := 20) (N := some 82) (v := ?_) (a' := ?_) (bl 47 25771900927) rfl rfl (by kernel_rfl) (fun _ _ _ h => h) (Or.inl ⟨by rfl, ?_⟩) ?_ ?_; rotate_left
        · (intro w'; go_simp; with_reducible rfl)
        rotate_left
        · (simp only [Act.put, List.setIfInBounds_toArray, List.set_cons_zero, List.set_cons_succ, i64_w, i32_w]; rfl)
        refine join_ (σ := Value × Value × Value × Value × Bool × Bool × Value × Value × Value × Value × Bool) 13 (bl 47 30064771071) (fun x => [(83, x.1), (84, x.2.1), (85, x.2.2.1), (86, x.2.2.2.1), (87, .bool x.2.2.2.2.1), (88, .bool x.2.2.2.2.2.1), (89, x.2.2.2.2.2.2.1), (90, x.2.2.2.2.2.2.2.1), (91, x.2.2.2.2.2.2.2.2.1), (92, x.2.2.2.2.2.2.2.2.2.1), (93, .bool x.2.2.2.2.2.2.2.2.2.2)]) (fun x w' => (w'.cell? ⟨pb, 0, none⟩ = some (.string c.f0) ∧ w'.cell? ⟨pb, 1, none⟩ = some (.string c.f1) ∧ w'.cell? ⟨pb, 2, none⟩ = some (.slice A2 c.f2.length c2) ∧ w'.cell? ⟨pb, 3, none⟩ = some (.slice A3 c.f3.length c3) ∧ w'.cell? ⟨pb, 4, none⟩ = some (.int .i64 c.f4) ∧ w'.cell? ⟨pb, 5, none⟩ = some (.int .i64 c.f5) ∧ w'.cell? ⟨pb, 6, none⟩ = some (.slice A6 c.f6.length c6) ∧ (Instr.lookup 198 (.map (some mb)) (.string c.f0) false).run Tryz.prog w' = .ok (.int .i64 ((cn : Int) + 1)) w' ∧ Cnt 9 klS okS mb (j + 1) ((l5.take (j + 1)).map S104.f0) w' ∧ pb < w'.heap.size ∧ Tabs w' ∧ Below w.heap.size w w') ∧ x.2.2.2.2.2.2.2.2.2.2 = (m2 || m3 || m6)) ?_ ?_
        rotate_left
        · intro hCont
          cases m2 with
          | true =>
            refine pure_ (i := 21) (N := some 83) (v := undef) (a' := ?_) (bl 47 25773998079) rfl rfl (by kernel_rfl) (fun _ _ _ h => h) (Or.inr ⟨by rfl, rfl⟩) ?_ ?_; rotate_left
            · (simp only [Act.put, List.setIfInBounds_toArray, List.set_cons_zero, List.set_cons_succ, i64_w, i32_w]; rfl)
            refine pure_ (i := 22) (N := some 84) (v := undef) (a' := ?_) (bl 47 25778192383) rfl rfl (by kernel_rfl) (fun _ _ _ h => h) (Or.inr ⟨by rfl, rfl⟩) ?_ ?_; rotate_left
            · (simp only [Act.put, List.setIfInBounds_toArray, List.set_cons_zero, List.set_cons_succ, i64_w, i32_w]; rfl)
            refine pure_ (i := 23) (N := some 85) (v := undef) (a' := ?_) (bl 47 25786580991) rfl rfl (by kernel_rfl) (fun _ _ _ h => h) (Or.inr ⟨by rfl, rfl⟩) ?_ ?_; rotate_left
            · (simp only [Act.put, List.setIfInBounds_toArray, List.set_cons_zero, List.set_cons_succ, i64_w, i32_w]; rfl)
            refine pure_ (i := 24) (N := some 86) (v := undef) (a' := ?_) (bl 47 25803358207) rfl rfl (by kernel_rfl) (fun _ _ _ h => h) (Or.inr ⟨by rfl, rfl⟩) ?_ ?_; rotate_left
            · (simp only [Act.put, List.setIfInBounds_toArray, List.set_cons_zero, List.set_cons_succ, i64_w, i32_w]; rfl)
            refine pure_ (i := 25) (N := some 87) (v := ?_) (a' := ?_) (bl 47 25836912639) rfl rfl (by kernel_rfl) (fun _ _ _ h => h) (Or.inl ⟨by rfl, ?_⟩) ?_ ?_; rotate_left
            · (intro w'; go_simp; with_reducible rfl)
            rotate_left
            · (simp only [Act.put, List.setIfInBounds_toArray, List.set_cons_zero, List.set_cons_succ, i64_w, i32_w]; rfl)
            refine pure_ (i := 26) (N := some 88) (v := ?_) (a' := ?_) (bl 47 25904021503) rfl rfl (by kernel_rfl) (fun _ _ _ h => h) (Or.inl ⟨by rfl, ?_⟩) ?_ ?_; rotate_left
            · (intro w'; go_simp; with_reducible rfl)
            rotate_left
            · (simp only [Act.put, List.setIfInBounds_toArray, List.set_cons_zero, List.set_cons_succ, i64_w, i32_w]; rfl)
            refine pure_ (i := 27) (N := some 89) (v := undef) (a' := ?_) (bl 47 26038239231) rfl rfl (by kernel_rfl) (fun _ _ _ h => h) (Or.inr ⟨by rfl, rfl⟩) ?_ ?_; rotate_left
            · (simp only [Act.put, List.setIfInBounds_toArray, List.set_cons_zero, List.set_cons_succ, i64_w, i32_w]; rfl)
            refine pure_ (i := 28) (N := some 90) (v := undef) (a' := ?_) (bl 47 26306674687) rfl rfl (by kernel_rfl) (fun _ _ _ h => h) (Or.inr ⟨by rfl, rfl⟩) ?_ ?_; rotate_left
            · (simp only [Act.put, List.setIfInBounds_toArray, List.set_cons_zero, List.set_cons_succ, i64_w, i32_w]; rfl)
            refine pure_ (i := 29) (N := some 91) (v := undef) (a' := ?_) (bl 47 26843545599) rfl rfl (by kernel_rfl) (fun _ _ _ h => h) (Or.inr ⟨by rfl, rfl⟩) ?_ ?_; rotate_left
            · (simp only [Act.put, List.setIfInBounds_toArray, List.set_cons_zero, List.set_cons_succ, i64_w, i32_w]; rfl)
            refine pure_ (i := 30) (N := some 92) (v := undef) (a' := ?_) (bl 47 27917287423) rfl rfl (by kernel_rfl) (fun _ _ _ h => h) (Or.inr ⟨by rfl, rfl⟩) ?_ ?_; rotate_left
            · (simp only [Act.put, List.setIfInBounds_toArray, List.set_cons_zero, List.set_cons_succ, i64_w, i32_w]; rfl)
            refine pure_ (i := 31) (N := some 93) (v := ?_) (a' := ?_) (bl 47 30064771071) rfl rfl (by kernel_rfl) (fun _ _ _ h => h) (Or.inl ⟨by rfl, ?_⟩) ?_ ?_; rotate_left
            · (intro w'; go_simp; with_reducible rfl)
            rotate_left
            · (simp only [Act.put, List.setIfInBounds_toArray, List.set_cons_zero, List.set_cons_succ, i64_w, i32_w]; rfl)
            exact norm_ (by simp only [putAll, Act.put, List.setIfInBounds_toArray, List.set_cons_zero, List.set_cons_succ]) (hCont (undef, undef, undef, undef, true, true, undef, undef, undef, undef, true) _ ⟨hHeld, rfl⟩)
          | false =>
            cases m3 with
            | true =>
              skip
              refine pure_ (i := 21) (N := some 83) (v := ?_) (a' := ?_) (bl 47 25773998079) rfl rfl (by kernel_rfl) (fun _ _ _ h => h) (Or.inl ⟨by rfl, ?_⟩) ?_ ?_; rotate_left
              · (intro w'; go_simp; with_reducible rfl)
              rotate_left
              · (simp only [Act.put, List.setIfInBounds_toArray, List.set_cons_zero, List.set_cons_succ, i64_w, i32_w]; rfl)
              refine take_ (i := 22) (N := some 84) (v := ?_) (a' := ?_) (bl 47 25778192383) rfl rfl (by kernel_rfl) (fun _ _ _ h => h) (Or.inl ⟨by rfl, ?_⟩) hHeld ?_ ?_; rotate_left
              · (rintro w' ⟨s0, s1, s2, s3, s4, s5, s6, s7, s8, s9, s10, s11⟩; go_simp; with_reducible rfl)
              rotate_left
              · (simp only [Act.put, List.setIfInBounds_toArray, List.set_cons_zero, List.set_cons_succ, i64_w, i32_w]; rfl)
              refine pure_ (i := 23) (N := some 85) (v := ?_) (a' := ?_) (bl 47 25786580991) rfl rfl (by kernel_rfl) (fun _ _ _ h => h) (Or.inl ⟨by rfl, ?_⟩) ?_ ?_; rotate_left
              · (intro w'; go_simp; with_reducible rfl)
              rotate_left
              · (simp only [Act.put, List.setIfInBounds_toArray, List.set_cons_zero, List.set_cons_succ, i64_w, i32_w]; rfl)
              refine one_ (i := 24) (N := some 86) (bl 47 25803358207) rfl rfl (by kernel_rfl) (by decide) (fun K hK => ?_)
              refine goes_ Tryz.func123 (by kernel_rfl) rfl #[.int .i64 (c.f3.length : Int)] (by rfl) rfl rfl (by simp only [List.map_toArray, List.map_cons, List.map_nil]; rfl) ?_
              with_reducible refine (cM3 _).mono ?_
              rintro e w3 ⟨rfl, hb⟩
              refine ⟨_, rfl, ?_⟩
              refine hK.out _ _ (PD_later HO.out HQ.out hHeld hb.below) (fun hNow => ?_)
              clear hK K hHeld
              have hHeld := hNow
              clear hNow
              refine norm_ (a' := ?_) ?_ ?_
              rotate_left
              · show Act.put _ (some 86) _ = _
                simp only [Act.put, List.setIfInBounds_toArray, List.set_cons_zero, List.set_cons_succ, i64_w, i32_w]
                rfl
              refine pure_ (i := 25) (N := some 87) (v := ?_) (a' := ?_) (bl 47 25836912639) rfl rfl (by kernel_rfl) (fun _ _ _ h => h) (Or.inl ⟨by rfl, ?_⟩) ?_ ?_; rotate_left
              · (intro w'; go_simp; with_reducible rfl)
              rotate_left
              · (simp only [Act.put, List.setIfInBounds_toArray, List.set_cons_zero, List.set_cons_succ, i64_w, i32_w]; rfl)
              refine pure_ (i := 26) (N := some 88) (v := ?_) (a' := ?_) (bl 47 25904021503) rfl rfl (by kernel_rfl) (fun _ _ _ h => h) (Or.inl ⟨by rfl, ?_⟩) ?_ ?_; rotate_left
              · (intro w'; go_simp; with_reducible rfl)
              rotate_left
              · (simp only [Act.put, List.setIfInBounds_toArray, List.set_cons_zero, List.set_cons_succ, i64_w, i32_w]; rfl)
              refine pure_ (i := 27) (N := some 89) (v := undef) (a' := ?_) (bl 47 26038239231) rfl rfl (by kernel_rfl) (fun _ _ _ h => h) (Or.inr ⟨by rfl, rfl⟩) ?_ ?_; rotate_left
              · (simp only [Act.put, List.setIfInBounds_toArray, List.set_cons_zero, List.set_cons_succ, i64_w, i32_w]; rfl)
              refine pure_ (i := 28) (N := some 90) (v := undef) (a' := ?_) (bl 47 26306674687) rfl rfl (by kernel_rfl) (fun _ _ _ h => h) (Or.inr ⟨by rfl, rfl⟩) ?_ ?_; rotate_left
              · (simp only [Act.put, List.setIfInBounds_toArray, List.set_cons_zero, List.set_cons_succ, i64_w, i32_w]; rfl)
              refine pure_ (i := 29) (N := some 91) (v := undef) (a' := ?_) (bl 47 26843545599) rfl rfl (by kernel_rfl) (fun _ _ _ h => h) (Or.inr ⟨by rfl, rfl⟩) ?_ ?_; rotate_left
              · (simp only [Act.put, List.setIfInBounds_toArray, List.set_cons_zero, List.set_cons_succ, i64_w, i32_w]; rfl)
              refine pure_ (i := 30) (N := some 92) (v := undef) (a' := ?_) (bl 47 27917287423) rfl rfl (by kernel_rfl) (fun _ _ _ h => h) (Or.inr ⟨by rfl, rfl⟩) ?_ ?_; rotate_left
              · (simp only [Act.put, List.setIfInBounds_toArray, List.set_cons_zero, List.set_cons_succ, i64_w, i32_w]; rfl)
              refine pure_ (i := 31) (N := some 93) (v := ?_) (a' := ?_) (bl 47 30064771071) rfl rfl (by kernel_rfl) (fun _ _ _ h => h) (Or.inl ⟨by rfl, ?_⟩) ?_ ?_; rotate_left
              · (intro w'; go_simp; with_reducible rfl)
              rotate_left
              · (simp only [Act.put, List.setIfInBounds_toArray, List.set_cons_zero, List.set_cons_succ, i64_w, i32_w]; rfl)
              exact norm_ (by simp only [putAll, Act.put, List.setIfInBounds_toArray, List.set_cons_zero, List.set_cons_succ]) (hCont (.pointer (some ⟨pb, 3, none⟩), .slice A3 c.f3.length c3, .int .i64 (c.f3.length : Int), .bool true, true, true, undef, undef, undef, undef, true) _ ⟨hHeld, rfl⟩)
            | false =>
              skip
              refine pure_ (i := 21) (N := some 83) (v := ?_) (a' := ?_) (bl 47 25773998079) rfl rfl (by kernel_rfl) (fun _ _ _ h => h) (Or.inl ⟨by rfl, ?_⟩) ?_ ?_; rotate_left
              · (intro w'; go_simp; with_reducible rfl)
              rotate_left
              · (simp only [Act.put, List.setIfInBounds_toArray, List.set_cons_zero, List.set_cons_succ, i64_w, i32_w]; rfl)
              refine take_ (i := 22) (N := some 84) (v := ?_) (a' := ?_) (bl 47 25778192383) rfl rfl (by kernel_rfl) (fun _ _ _ h => h) (Or.inl ⟨by rfl, ?_⟩) hHeld ?_ ?_; rotate_left
              · (rintro w' ⟨s0, s1, s2, s3, s4, s5, s6, s7, s8, s9, s10, s11⟩; go_simp; with_reducible rfl)
              rotate_left
              · (simp only [Act.put, List.setIfInBounds_toArray, List.set_cons_zero, List.set_cons_succ, i64_w, i32_w]; rfl)
              refine pure_ (i := 23) (N := some 85) (v := ?_) (a' := ?_) (bl 47 25786580991) rfl rfl (by kernel_rfl) (fun _ _ _ h => h) (Or.inl ⟨by rfl, ?_⟩) ?_ ?_; rotate_left
              · (intro w'; go_simp; with_reducible rfl)
              rotate_left
              · (simp only [Act.put, List.setIfInBounds_toArray, List.set_cons_zero, List.set_cons_succ, i64_w, i32_w]; rfl)
              refine one_ (i := 24) (N := some 86) (bl 47 25803358207) rfl rfl (by kernel_rfl) (by decide) (fun K hK => ?_)
              refine goes_ Tryz.func123 (by kernel_rfl) rfl #[.int .i64 (c.f3.length : Int)] (by rfl) rfl rfl (by simp only [List.map_toArray, List.map_cons, List.map_nil]; rfl) ?_
              with_reducible refine (cM3 _).mono ?_
              rintro e w3 ⟨rfl, hb⟩
              refine ⟨_, rfl, ?_⟩
              refine hK.out _ _ (PD_later HO.out HQ.out hHeld hb.below) (fun hNow => ?_)
              clear hK K hHeld
              have hHeld := hNow
              clear hNow
              refine norm_ (a' := ?_) ?_ ?_
              rotate_left
              · show Act.put _ (some 86) _ = _
                simp only [Act.put, List.setIfInBounds_toArray, List.set_cons_zero, List.set_cons_succ, i64_w, i32_w]
                rfl
              refine pure_ (i := 25) (N := some 87) (v := ?_) (a' := ?_) (bl 47 25836912639) rfl rfl (by kernel_rfl) (fun _ _ _ h => h) (Or.inl ⟨by rfl, ?_⟩) ?_ ?_; rotate_left
              · (intro w'; go_simp; with_reducible rfl)
              rotate_left
              · (simp only [Act.put, List.setIfInBounds_toArray, List.set_cons_zero, List.set_cons_succ, i64_w, i32_w]; rfl)
              refine pure_ (i := 26) (N := some 88) (v := ?_) (a' := ?_) (bl 47 25904021503) rfl rfl (by kernel_rfl) (fun _ _ _ h => h) (Or.inl ⟨by rfl, ?_⟩) ?_ ?_; rotate_left
              · (intro w'; go_simp; with_reducible rfl)
              rotate_left
              · (simp only [Act.put, List.setIfInBounds_toArray, List.set_cons_zero, List.set_cons_succ, i64_w, i32_w]; rfl)
              refine pure_ (i := 27) (N := some 89) (v := ?_) (a' := ?_) (bl 47 26038239231) rfl rfl (by kernel_rfl) (fun _ _ _ h => h) (Or.inl ⟨by rfl, ?_⟩) ?_ ?_; rotate_left
              · (intro w'; go_simp; with_reducible rfl)
              rotate_left
              · (simp only [Act.put, List.setIfInBounds_toArray, List.set_cons_zero, List.set_cons_succ, i64_w, i32_w]; rfl)
              refine take_ (i := 28) (N := some 90) (v := ?_) (a' := ?_) (bl 47 26306674687) rfl rfl (by kernel_rfl) (fun _ _ _ h => h) (Or.inl ⟨by rfl, ?_⟩) hHeld ?_ ?_; rotate_left
              · (rintro w' ⟨s0, s1, s2, s3, s4, s5, s6, s7, s8, s9, s10, s11⟩; go_simp; with_reducible rfl)
              rotate_left
              · (simp only [Act.put, List.setIfInBounds_toArray, List.set_cons_zero, List.set_cons_succ, i64_w, i32_w]; rfl)
              refine pure_ (i := 29) (N := some 91) (v := ?_) (a' := ?_) (bl 47 26843545599) rfl rfl (by kernel_rfl) (fun _ _ _ h => h) (Or.inl ⟨by rfl, ?_⟩) ?_ ?_; rotate_left
              · (intro w'; go_simp; with_reducible rfl)
              rotate_left
              · (simp only [Act.put, List.setIfInBounds_toArray, List.set_cons_zero, List.set_cons_succ, i64_w, i32_w]; rfl)
              refine one_ (i := 30) (N := some 92) (bl 47 27917287423) rfl rfl (by kernel_rfl) (by decide) (fun K hK => ?_)
              refine goes_ Tryz.func123 (by kernel_rfl) rfl #[.int .i64 (c.f6.length : Int)] (by rfl) rfl rfl (by simp only [List.map_toArray, List.map_cons, List.map_nil]; rfl) ?_
              with_reducible refine (cM6 _).mono ?_
              rintro e w3 ⟨rfl, hb⟩
              refine ⟨_, rfl, ?_⟩
              refine hK.out _ _ (PD_later HO.out HQ.out hHeld hb.below) (fun hNow => ?_)
              clear hK K hHeld
              have hHeld := hNow
              clear hNow
              refine norm_ (a' := ?_) ?_ ?_
              rotate_left
              · show Act.put _ (some 92) _ = _
                simp only [Act.put, List.setIfInBounds_toArray, List.set_cons_zero, List.set_cons_succ, i64_w, i32_w]
                rfl
              refine pure_ (i := 31) (N := some 93) (v := ?_) (a' := ?_) (bl 47 30064771071) rfl rfl (by kernel_rfl) (fun _ _ _ h => h) (Or.inl ⟨by rfl, ?_⟩) ?_ ?_; rotate_left
              · (intro w'; go_simp; with_reducible rfl)
              rotate_left
              · (simp only [Act.put, List.setIfInBounds_toArray, List.set_cons_zero, List.set_cons_succ, i64_w, i32_w]; rfl)
              exact norm_ (by simp only [putAll, Act.put, List.setIfInBounds_toArray, List.set_cons_zero, List.set_cons_succ]) (hCont (.pointer (some ⟨pb, 3, none⟩), .slice A3 c.f3.length c3, .int .i64 (c.f3.length : Int), .bool false, false, false, .pointer (some ⟨pb, 6, none⟩), .slice A6 c.f6.length c6, .int .i64 (c.f6.length : Int), .bool m6, m6) _ ⟨hHeld, rfl⟩)
        rintro ⟨v83, v84, v85, v86, b87, b88, v89, v90, v91, v92, b93⟩ wq ⟨hNow, hbq⟩
        dsimp only at hbq
        subst hbq
        clear hHeld
        have hHeld := hNow
        clear hNow
        generalize hbq : (m2 || m3 || m6) = b93
        have HB93 := Aside0.mk hbq
        clear hbq
        refine norm_ (a' := ?_) ?_ ?_
        rotate_left
        · simp only [putAll, Act.put, List.setIfInBounds_toArray, List.set_cons_zero, List.set_cons_succ]
          rfl
        refine one_ (i := 32) (N := some 94) (bl 47 34359738367) rfl rfl (by kernel_rfl) (by decide) (fun K hK => ?_)
        refine goes_ Tryz.func121 (by kernel_rfl) rfl #[.bool b93, .int .i64 18] (by rfl) rfl rfl (by simp only [List.map_toArray, List.map_cons, List.map_nil]; rfl) ?_
        with_reducible refine (cWhenP b93 18 _).mono ?_
        rintro e w9 ⟨rfl, hb⟩
        refine ⟨_, rfl, ?_⟩
        refine hK.out _ _ (PD_later HO.out HQ.out hHeld hb.below) (fun hNow => ?_)
        clear hK K hHeld
        have hHeld := hNow
        clear hNow
        refine norm_ (a' := ?_) ?_ ?_
        rotate_left
        · show Act.put _ (some 94) _ = _
          simp only [Act.put, List.setIfInBounds_toArray, List.set_cons_zero, List.set_cons_succ, i64_w, i32_w]
          rfl
        refine one_ (i := 35) (N := some 97) (bl 47 68719476735) rfl rfl (by kernel_rfl) (by decide) (fun K hK => ?_)
        refine goes_ Tryz.func122 (by kernel_rfl) rfl #[.int .i64 c.f4, .int .i64 64000] (by rfl) rfl rfl (by simp only [List.map_toArray, List.map_cons, List.map_nil]; rfl) ?_
        with_reducible refine (cF4 _).mono ?_
        rintro e w10 ⟨rfl, hb⟩
        refine ⟨_, rfl, ?_⟩
        refine hK.out _ _ (PD_later HO.out HQ.out hHeld hb.below) (fun hNow => ?_)
        clear hK K hHeld
        have hHeld := hNow
        clear hNow
        refine norm_ (a' := ?_) ?_ ?_
        rotate_left
        · show Act.put _ (some 97) _ = _
          simp only [Act.put, List.setIfInBounds_toArray, List.set_cons_zero, List.set_cons_succ, i64_w, i32_w]
          rfl
        refine pure_ (i := 36) (N := some 98) (v := ?_) (a' := ?_) (bl 47 137438953471) rfl rfl (by kernel_rfl) (fun _ _ _ h => h) (Or.inl ⟨by rfl, ?_⟩) ?_ ?_; rotate_left
        · (intro w'; go_simp; with_reducible rfl)
        rotate_left
        · (simp only [Act.put, List.setIfInBounds_toArray, List.set_cons_zero, List.set_cons_succ, i64_w, i32_w]; rfl)
        refine pure_ (i := 37) (N := some 99) (v := ?_) (a' := ?_) (bl 47 274877906943) rfl rfl (by kernel_rfl) (fun _ _ _ h => h) (Or.inl ⟨by rfl, ?_⟩) ?_ ?_; rotate_left
        · (intro w'; go_simp; with_reducible rfl)
        rotate_left
        · (simp only [Act.put, List.setIfInBounds_toArray, List.set_cons_zero, List.set_cons_succ, i64_w, i32_w]; rfl)
        refine join_ (σ := Value × Value × Value × Value × Bool) 4 (bl 47 8796093022207) (fun x => [(100, x.1), (101, x.2.1), (102, x.2.2.1), (103, x.2.2.2.1), (104, .bool x.2.2.2.2)]) (fun x w' => (w'.cell? ⟨pb, 0, none⟩ = some (.string c.f0) ∧ w'.cell? ⟨pb, 1, none⟩ = some (.string c.f1) ∧ w'.cell? ⟨pb, 2, none⟩ = some (.slice A2 c.f2.length c2) ∧ w'.cell? ⟨pb, 3, none⟩ = some (.slice A3 c.f3.length c3) ∧ w'.cell? ⟨pb, 4, none⟩ = some (.int .i64 c.f4) ∧ w'.cell? ⟨pb, 5, none⟩ = some (.int .i64 c.f5) ∧ w'.cell? ⟨pb, 6, none⟩ = some (.slice A6 c.f6.length c6) ∧ (Instr.lookup 198 (.map (some mb)) (.string c.f0) false).run Tryz.prog w' = .ok (.int .i64 ((cn : Int) + 1)) w' ∧ Cnt 9 klS okS mb (j + 1) ((l5.take (j + 1)).map S104.f0) w' ∧ pb < w'.heap.size ∧ Tabs w' ∧ Below w.heap.size w w') ∧ x.2.2.2.2 = (!f4 || !f5)) ?_ ?_
        rotate_left
        · intro hCont
          cases f4 with
          | false =>
            refine pure_ (i := 38) (N := some 100) (v := undef) (a' := ?_) (bl 47 549755813887) rfl rfl (by kernel_rfl) (fun _ _ _ h => h) (Or.inr ⟨by rfl, rfl⟩) ?_ ?_; rotate_left
            · (simp only [Act.put, List.setIfInBounds_toArray, List.set_cons_zero, List.set_cons_succ, i64_w, i32_w]; rfl)
            refine pure_ (i := 39) (N := some 101) (v := undef) (a' := ?_) (bl 47 1099511627775) rfl rfl (by kernel_rfl) (fun _ _ _ h => h) (Or.inr ⟨by rfl, rfl⟩) ?_ ?_; rotate_left
            · (simp only [Act.put, List.setIfInBounds_toArray, List.set_cons_zero, List.set_cons_succ, i64_w, i32_w]; rfl)
            refine pure_ (i := 40) (N := some 102) (v := undef) (a' := ?_) (bl 47 2199023255551) rfl rfl (by kernel_rfl) (fun _ _ _ h => h) (Or.inr ⟨by rfl, rfl⟩) ?_ ?_; rotate_left
            · (simp only [Act.put, List.setIfInBounds_toArray, List.set_cons_zero, List.set_cons_succ, i64_w, i32_w]; rfl)
            refine pure_ (i := 41) (N := some 103) (v := undef) (a' := ?_) (bl 47 4398046511103) rfl rfl (by kernel_rfl) (fun _ _ _ h => h) (Or.inr ⟨by rfl, rfl⟩) ?_ ?_; rotate_left
            · (simp only [Act.put, List.setIfInBounds_toArray, List.set_cons_zero, List.set_cons_succ, i64_w, i32_w]; rfl)
            refine pure_ (i := 42) (N := some 104) (v := ?_) (a' := ?_) (bl 47 8796093022207) rfl rfl (by kernel_rfl) (fun _ _ _ h => h) (Or.inl ⟨by rfl, ?_⟩) ?_ ?_; rotate_left
            · (intro w'; go_simp; with_reducible rfl)
            rotate_left
            · (simp only [Act.put, List.setIfInBounds_toArray, List.set_cons_zero, List.set_cons_succ, i64_w, i32_w]; rfl)
            exact norm_ (by simp only [putAll, Act.put, List.setIfInBounds_toArray, List.set_cons_zero, List.set_cons_succ]) (hCont (undef, undef, undef, undef, true) _ ⟨hHeld, rfl⟩)
          | true =>
            refine pure_ (i := 38) (N := some 100) (v := ?_) (a' := ?_) (bl 47 549755813887) rfl rfl (by kernel_rfl) (fun _ _ _ h => h) (Or.inl ⟨by rfl, ?_⟩) ?_ ?_; rotate_left
            · (intro w'; go_simp; with_reducible rfl)
            rotate_left
            · (simp only [Act.put, List.setIfInBounds_toArray, List.set_cons_zero, List.set_cons_succ, i64_w, i32_w]; rfl)
            refine take_ (i := 39) (N := some 101) (v := ?_) (a' := ?_) (bl 47 1099511627775) rfl rfl (by kernel_rfl) (fun _ _ _ h => h) (Or.inl ⟨by rfl, ?_⟩) hHeld ?_ ?_; rotate_left
            · (rintro w' ⟨s0, s1, s2, s3, s4, s5, s6, s7, s8, s9, s10, s11⟩; go_simp; with_reducible rfl)
            rotate_left
            · (simp only [Act.put, List.setIfInBounds_toArray, List.set_cons_zero, List.set_cons_succ, i64_w, i32_w]; rfl)
            refine one_ (i := 40) (N := some 102) (bl 47 2199023255551) rfl rfl (by kernel_rfl) (by decide) (fun K hK => ?_)
            refine goes_ Tryz.func122 (by kernel_rfl) rfl #[.int .i64 c.f5, .int .i64 1048576] (by rfl) rfl rfl (by simp only [List.map_toArray, List.map_cons, List.map_nil]; rfl) ?_
            with_reducible refine (cF5 _).mono ?_
            rintro e w3 ⟨rfl, hb⟩
            refine ⟨_, rfl, ?_⟩
            refine hK.out _ _ (PD_later HO.out HQ.out hHeld hb.below) (fun hNow => ?_)
            clear hK K hHeld
            have hHeld := hNow
            clear hNow
            refine norm_ (a' := ?_) ?_ ?_
            rotate_left
            · show Act.put _ (some 102) _ = _
              simp only [Act.put, List.setIfInBounds_toArray, List.set_cons_zero, List.set_cons_succ, i64_w, i32_w]
              rfl
            refine pure_ (i := 41) (N := some 103) (v := ?_) (a' := ?_) (bl 47 4398046511103) rfl rfl (by kernel_rfl) (fun _ _ _ h => h) (Or.inl ⟨by rfl, ?_⟩) ?_ ?_; rotate_left
            · (intro w'; go_simp; with_reducible rfl)
            rotate_left
            · (simp only [Act.put, List.setIfInBounds_toArray, List.set_cons_zero, List.set_cons_succ, i64_w, i32_w]; rfl)
            refine pure_ (i := 42) (N := some 104) (v := ?_) (a' := ?_) (bl 47 8796093022207) rfl rfl (by kernel_rfl) (fun _ _ _ h => h) (Or.inl ⟨by rfl, ?_⟩) ?_ ?_; rotate_left
            · (intro w'; go_simp; with_reducible rfl)
            rotate_left
            · (simp only [Act.put, List.setIfInBounds_toArray, List.set_cons_zero, List.set_cons_succ, i64_w, i32_w]; rfl)
            exact norm_ (by simp only [putAll, Act.put, List.setIfInBounds_toArray, List.set_cons_zero, List.set_cons_succ]) (hCont (.pointer (some ⟨pb, 5, none⟩), .int .i64 c.f5, .bool f5, .bool (!f5), !f5) _ ⟨hHeld, rfl⟩)
        rintro ⟨v100, v101, v102, v103, b104⟩ wq ⟨hNow, hbq⟩
        dsimp only at hbq
        subst hbq
        clear hHeld
        have hHeld := hNow
        clear hNow
        generalize hbq : (!f4 || !f5) = b104
        have HB104 := Aside0.mk hbq
        clear hbq
        refine norm_ (a' := ?_) ?_ ?_
        rotate_left
        · simp only [putAll, Act.put, List.setIfInBounds_toArray, List.set_cons_zero, List.set_cons_succ]
          rfl
        refine one_ (i := 43) (N := some 105) (bl 47 17592186044415) rfl rfl (by kernel_rfl) (by decide) (fun K hK => ?_)
        refine goes_ Tryz.func121 (by kernel_rfl) rfl #[.bool b104, .int .i64 7] (by rfl) rfl rfl (by simp only [List.map_toArray, List.map_cons, List.map_nil]; rfl) ?_
        with_reducible refine (cWhenP b104 7 _).mono ?_
        rintro e w11 ⟨rfl, hb⟩
        refine ⟨_, rfl, ?_⟩
        refine hK.out _ _ (PD_later HO.out HQ.out hHeld hb.below) (fun hNow => ?_)
        clear hK K hHeld
        have hHeld := hNow
        clear hNow
        refine norm_ (a' := ?_) ?_ ?_
        rotate_left
        · show Act.put _ (some 105) _ = _
          simp only [Act.put, List.setIfInBounds_toArray, List.set_cons_zero, List.set_cons_succ, i64_w, i32_w]
          rfl
        refine one_ (i := 44) (N := some 106) (bl 47 35184372088831) rfl rfl (by kernel_rfl) (by decide) (fun K hK => ?_)
        refine value_ (w1 := ?_) (v := ?_) (by rfl) rfl ?_ ?_
        rotate_left 2
        · go_simp
          constructor
          · rfl
          · rfl
        refine hK.out _ _ (PD_later HO.out HQ.out hHeld ((Below.refl _ _).alloc (Nat.le_refl _) _)) (fun hNow => ?_)
        clear hK K hHeld
        have hHeld := hNow
        clear hNow
        refine norm_ (a' := ?_) ?_ ?_
        rotate_left
        · show Act.put _ (some 106) _ = _
          simp only [Act.put, List.setIfInBounds_toArray, List.set_cons_zero, List.set_cons_succ, i64_w, i32_w]
          rfl
        refine one_ (i := 45) (N := some 107) (bl 47 70368744177663) rfl rfl (by kernel_rfl) (by decide) (fun K hK => ?_)
        refine goes_ Tryz.func120 (by kernel_rfl) rfl #[.slice (some ⟨_, 0, none⟩) 5 5] (by rfl) rfl rfl (by simp only [List.map_toArray, List.map_cons, List.map_nil]; rfl) ?_
        with_reducible refine (cFirst5 _ _ _ _ _ _ _ 29 (first5 _ _ _ _ _ 8 (by omega))).mono ?_
        rintro e w12 ⟨rfl, hb⟩
        refine ⟨_, rfl, ?_⟩
        refine hK.out _ _ (PD_later HO.out HQ.out hHeld hb.below) (fun hNow => ?_)
        clear hK K hHeld
        have hHeld := hNow
        clear hNow
        refine norm_ (a' := ?_) ?_ ?_
        rotate_left
        · show Act.put _ (some 107) _ = _
          simp only [Act.put, List.setIfInBounds_toArray, List.set_cons_zero, List.set_cons_succ, i64_w, i32_w]
          rfl
        refine pure_ (i := 46) (N := some 7) (v := ?_) (a' := ?_) (bl 47 140737488355327) rfl rfl (by kernel_rfl) (fun _ _ _ h => h) (Or.inl ⟨by rfl, ?_⟩) ?_ ?_; rotate_left
        · (intro w'; go_simp; with_reducible rfl)
        rotate_left
        · (simp only [Act.put, List.setIfInBounds_toArray, List.set_cons_zero, List.set_cons_succ, i64_w, i32_w]; rfl)
        refine done_ (by kernel_rfl) ?_
        replace HPE := Aside0.mk (show contE ((l5.take j).map S104.f0) c = orP (orP (whenP (!lb) 13) (orP (whenP (decide ((1 : Int) < (cn : Int) + 1)) 8) (orP (whenP (!im) 6) (orP (whenP b93 18) (whenP b104 7))))) (partsP c.f2 c.f3 c.f6) from by rw [HPE.out, HB93.out, HB104.out])
        clear cL cI cM2 cM3 cM6 cF4 cF5 HS HQ HO HB93 HB104
        generalize orP (whenP (!lb) 13) (orP (whenP (decide ((1 : Int) < (cn : Int) + 1)) 8) (orP (whenP (!im) 6) (orP (whenP b93 18) (whenP b104 7)))) = r1 at HPE ⊢
        have HB9 := Aside0.mk hHeld.2.2.2.2.2.2.2.2.2.2.2
        by_cases h1 : r1 = 0
        · subst h1
          have cP := spec_parts.calls c.f0 c.f1 A2 A3 A6 c2 c3 c6 c.f4 c.f5 c.f2 c.f3 c.f6 w12 hHeld.2.2.2.2.2.2.2.2.2.2.1 (Kd.C_below HG.out.2.1 HB9.out) (Kd.C_below HG.out.2.2.2.1 HB9.out) (Kd.C_below HG.out.2.2.2.2.2 HB9.out) HG.out.1 HG.out.2.2.1 HG.out.2.2.2.2.1 HOK.out.2.2.1 HOK.out.2.2.2.1 HOK.out.2.2.2.2.1 HOK.out.2.2.2.2.2.1 HOK.out.2.2.2.2.2.2.1 HOK.out.2.2.2.2.2.2.2
          have HPE2 := Aside0.mk (show contE ((l5.take j).map S104.f0) c = partsP c.f2 c.f3 c.f6 from HPE.out)
          generalize partsP c.f2 c.f3 c.f6 = r2 at cP HPE2
          have HC9 := Aside0.mk hHeld.2.2.2.2.2.2.2.2.1
          obtain ⟨e0, e1, e2, e3, e4, e5, e6, _⟩ := hHeld
          have hE8 := HE3.out
          rw [HPE2.out] at hE8
          have HE8 := Aside0.mk hE8
          clear hE8 HE3 HPE HPE2 HG HOK HK
          by_cases h2 : r2 = 0
          · have hE9 := HE8.out
            rw [if_pos h2] at hE9
            have HE9 := Aside0.mk hE9
            clear hE9 HE8
            subst h2
            go_wp2_with (go_at_call 124; refine cP.mono ?_; rintro e w13 ⟨rfl, hb⟩; have HB10 := Aside0.mk (below_step HB9.out hb); have HC10 := Aside0.mk (HC9.out.later hb); clear hb)
            have hw1 : wrap64 ((j : Int) + 1) = ((j + 1 : Nat) : Int) := by unfold wrap64; omega
            go_roundw
            case rel => exact ⟨j + 1, by simp [hw1], hlt, HE9, HC10, HB10⟩
            case measure => simp [intOf, hw1]; omega
          · have hz0 : (r2 == 0) = false := beq_eq_false_iff_ne.2 h2
            have hz1 : (r2 != 0) = true := bne_iff_ne.2 h2
            have hE9 := HE8.out
            rw [if_neg h2] at hE9
            have HF9 := Aside0.mk (show podP n s rs gr l5 = r2 from by rw [HF.out, ← hE9])
            clear hE9 HE8 h2
            go_wp2_with (go_at_call 124; refine cP.mono ?_; rintro e w13 ⟨rfl, hb⟩; have HB10 := Aside0.mk (below_step HB9.out hb); have HC10 := Aside0.mk (HC9.out.later hb); clear hb)
            go_ret
            exact ⟨by rw [HF9.out]; rfl, HB10.out⟩
        · have hz0 : (r1 == 0) = false := beq_eq_false_iff_ne.2 h1
          have hz1 : (r1 != 0) = true := bne_iff_ne.2 h1
          have hE8 := HE3.out
          rw [show contE ((l5.take j).map S104.f0) c = r1 from by rw [HPE.out]; unfold orP; rw [if_neg h1], if_neg h1] at hE8
          have HF9 := Aside0.mk (show podP n s rs gr l5 = r1 from by rw [HF.out, ← hE8])
          clear hE8 HE3 HPE HG HOK HK hHeld h1
          go_wp2_with fail
          go_ret
          exact ⟨by rw [HF9.out]; rfl, HB9.out⟩
      · have hlt7 : ¬ (j : Int) < (l5.length : Int) := by omega
        have hz : contsP [] l5 = 0 := by rw [← HE3.out, List.drop_of_length_le (by omega)]; rfl
        have HF9 := Aside0.mk (HF.out.trans hz)
        clear HE3 hz HF HC
        go_wp2_with fail
        go_ret
        exact ⟨by rw [HF9.out]; rfl, HB.out⟩
end Go.Proofs.YtlmeelmjodjfpaaGreatDoor.PB
