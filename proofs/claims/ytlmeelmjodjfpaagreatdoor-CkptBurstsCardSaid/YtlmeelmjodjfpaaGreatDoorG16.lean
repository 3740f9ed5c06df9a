/- CkptBursts, part 17 of 24 of its proof: for every input that meets the row's condition (laid, tied) the call returns true and each argument reads behind it as before. -/
import Derived.Test.YtlmeelmjodjfpaaGreatDoorG15
namespace Go.Proofs.YtlmeelmjodjfpaaGreatDoor.PB
open Go.RowKit Go.Maps Go.Proofs.YtlmeelmjodjfpaaGreatDoorW.PrintWords Go.Proofs.YtlmeelmjodjfpaaGreatDoorW.PrintLast Go.Proofs.YtlmeelmjodjfpaaGreatDoorW.PrintMore
open Fr (tx tx_list tx_size tx_app tx_of)
set_option linter.unusedVariables false
set_option linter.unusedSimpArgs false
theorem info118 : (Tryz.prog.info? 118).map (fun i => (i.zero, i.size, i.bytes)) = some (some (.agg #[.string ⟨#[]⟩, .string ⟨#[]⟩, .string ⟨#[]⟩, .int .u8 0, .int .u16 0, .slice none 0 0]), 6, 80) := by kernel_rfl
/-- A row of one element, just laid. -/
theorem R_one {α : Type} {d : Kd α} {e base g : Nat} {ok okp : Nat → Prop} {w : World} {x : α} {cs : List Value} (hb : w.heap[g]? = some (.cells cs.toArray e (0, 0))) (hM : d.M w base okp x cs) (hg : base ≤ g) (hokg : ok g) (hokp : ∀ k, okp k → ok k ∧ k ≠ g) : d.R e w base ok (.slice (some ⟨g, 0, none⟩) 1 1) [x] := by
  have hl := d.K_len (d.K_of_M hM)
  refine ⟨fun k hk => by simp [Value.ownBlock] at hk; subst hk; exact hokg, cs, ⟨by simp [hl], .inr ⟨g, 1, cs.toArray, rfl, hg, hb, Nat.le_refl _, by decide, by simp [hl], by simp only [List.length_singleton, Nat.one_mul]; exact List.take_of_length_le (by omega)⟩⟩, by simp [hl], ?_⟩
  intro j p hj
  obtain rfl : j = 0 := by
    rcases Nat.eq_zero_or_pos j with h | h
    · exact h
    · rw [List.getElem?_eq_none (by simp; omega)] at hj; cases hj
  obtain rfl : x = p := by simpa using hj
  rw [Nat.zero_mul, List.drop_zero, List.take_of_length_le (by omega)]
  exact d.M_mono (fun k hk => ⟨(hokp k hk).1, by simp [Value.ownBlock]; exact (hokp k hk).2⟩) hM
def upC (c : S120) : S104 := ⟨c.f0, c.f1, [], [], 100, 64, []⟩
def upP (p : S118) : S94 := ⟨p.f0, ⟨p.f1, p.f2, p.f3, p.f4, false, p.f5.map upC⟩⟩
def up1 (p : S100) : S118 := ⟨p.f0, p.f1, tx [100, 101, 102, 97, 117, 108, 116], p.f3, 30, [⟨tx [109, 97, 105, 110], p.f2⟩]⟩
/-- What an element function comes to. -/
def OneP {α : Type} (d : Kd α) (w : World) (x : α) (e : Ending) (w' : World) : Prop := ∃ cs, e = .returned (.agg cs.toArray) ∧ d.M w' w.heap.size (fun k => w.heap.size ≤ k) x cs ∧ Below w.heap.size w w'
/-- What each comes to. -/
def EachP {α : Type} (d : Kd α) (t : Nat) (w : World) (l : List α) (e : Ending) (w' : World) : Prop := ∃ v, e = .returned v ∧ d.R t w' w.heap.size (fun k => w.heap.size ≤ k) v l ∧ Below w.heap.size w w'
set_option maxHeartbeats 1000000
set_option maxRecDepth 100000
theorem k104_R0 (w : World) (base : Nat) (ok : Nat → Prop) (f0 f1 : ByteArray) (a b : Int) : k104.M w base ok ⟨f0, f1, [], [], a, b, []⟩ [.string f0, .string f1, .slice none 0 0, .slice none 0 0, .int .i64 a, .int .i64 b, .slice none 0 0] :=
  k104_own (Kd.R_nil Kd.string 9 _ _ _) (Kd.R_nil k160 160 _ _ _) (Kd.R_nil k161 161 _ _ _)
theorem up_container.calls (c : S120) (w : World) : Calls Tryz.prog 57 #[.agg #[.string c.f0, .string c.f1]] w (OneP k104 w (upC c)) := by
  have hR := blk_new (w.alloc (.cells #[.string c.f0, .string c.f1] 120)) (.cells #[.string ⟨#[]⟩, .string ⟨#[]⟩, .slice none 0 0, .slice none 0 0, .int .i64 0, .int .i64 0, .slice none 0 0] 104)
  have hB := below_alloc (below_alloc (Below.refl w.heap.size w) (.cells #[.string c.f0, .string c.f1] 120)) (.cells #[.string ⟨#[]⟩, .string ⟨#[]⟩, .slice none 0 0, .slice none 0 0, .int .i64 0, .int .i64 0, .slice none 0 0] 104)
  rw [World_size_alloc2] at hR
  have HB := Aside0.mk hB
  have HR := Aside0.mk hR
  clear hR hB
  go_enter Tryz.func57, Tryz.ntmps57
  go_wp2_with fail
  refine bodyPost_ret (v := .agg #[.string c.f0, .string c.f1, .slice none 0 0, .slice none 0 0, .int .i64 100, .int .i64 64, .slice none 0 0]) (by simp [results, Tryz.results57, go_sem]) rfl ?_
  exact ⟨[.string c.f0, .string c.f1, .slice none 0 0, .slice none 0 0, .int .i64 100, .int .i64 64, .slice none 0 0], rfl, k104_R0 _ _ _ _ _ _ _, by repeat (first | exact Below.refl _ _ | apply below_alloc)⟩
theorem each56.calls (A1 : Option Addr) (c1 : Nat) (l : List S120) (w : World) (h1 : k120.C w A1 l.length l) (hl : l.length ≤ 1000000) :
    Calls Tryz.prog 56 #[.slice A1 l.length c1, .func (.func 57) #[] #[]] w (EachP k104 104 w (l.map upC)) := by
  have H1 := Aside0.mk h1
  clear h1
  go_enter Tryz.func56, Tryz.ntmps56
  go_wp2_with fail
  go_loopw [5, 10] (fun v5 v10 wr => ∃ (j : Nat) (acc : List S104), v10 = .int .i64 (j : Int) ∧ j ≤ l.length ∧ Aside0 (acc = (l.take j).map upC) ∧ Aside0 (k104.R 104 wr w.heap.size (fun k => w.heap.size ≤ k) v5 acc) ∧ Aside0 (Below w.heap.size w wr)) (fun _ v10 _ => l.length - (intOf v10).toNat)
  case atStart => exact ⟨0, [], rfl, Nat.zero_le _, ⟨by simp⟩, ⟨Kd.R_nil k104 104 w w.heap.size (fun k => w.heap.size ≤ k)⟩, ⟨Below.refl _ _⟩⟩
  case round =>
    obtain ⟨j, acc, rfl, hj, HAC, HR, HB⟩ := hrel
    obtain ⟨A0, c0, hv⟩ := R_slice HR.out
    by_cases hlt : j < l.length
    · have hlt2 : (j : Int) < (l.length : Int) := by omega
      have hj0 : (0 : Int) ≤ (j : Int) := by omega
      obtain ⟨ad, ea, q0, q1⟩ := at_T120 H1.out (j : Int) hj0 hlt2
      subst ea
      rw [Int.toNat_natCast] at q0 q1
      replace q0 := cell_below_ HB.out q0
      replace q1 := cell_below_ HB.out q1
      have hrd : rd_T120 l (j : Int) = l[j] := by simp [rd_T120, List.getD, List.getElem?_eq_getElem hlt]
      have HE := Aside0.mk (show (l.take (j + 1)).map upC = acc ++ [upC (rd_T120 l (j : Int))] from by rw [HAC.out, hrd, List.take_succ_eq_append_getElem hlt, List.map_append]; rfl)
      have HLE := Aside0.mk (show acc.length = j from by rw [HAC.out]; simp; omega)
      clear hrd
      generalize rd_T120 l (j : Int) = x at q0 q1 HE
      subst hv
      have cOne := up_container.calls x (wr.alloc (.cells #[.string x.f0, .string x.f1] 120))
      have HBA := Aside0.mk (below_alloc HB.out (.cells #[.string x.f0, .string x.f1] 120))
      have HSZ := Aside0.mk (show wr.heap.size ≤ (wr.alloc (.cells #[.string x.f0, .string x.f1] 120)).heap.size from by simp)
      go_wp2_with (first | (go_at_call 57; refine cOne.mono ?_; rintro e w3 ⟨cs, rfl, hM, hb⟩; obtain ⟨A2, c2, A3, c3, A6, c6, rfl⟩ := k104_M_open hM; have HM := Aside0.mk hM; have HB3 := Aside0.mk (below_step HBA.out hb); have HR3 := Aside0.mk (Kd.R_below (Kd.R_below HR.out (below_alloc (Below.refl _ _) (.cells #[.string x.f0, .string x.f1] 120))) hb); have HS3 := Aside0.mk hb.size; clear hM hb cOne q0 q1) | (at_builtin; refine Kd.R_append k104 (w0 := w) w.heap.size rfl (.tmp 14) (.tmp 18) 90 104 (.agg #[.string ⟨#[]⟩, .string ⟨#[]⟩, .slice none 0 0, .slice none 0 0, .int .i64 0, .int .i64 0, .slice none 0 0]) 120 (by rfl) Tryz.underlying90 info104 rfl (by decide) (by decide) (.slice A0 acc.length c0) acc (upC x) [.string (upC x).f0, .string (upC x).f1, .slice A2 (upC x).f2.length c2, .slice A3 (upC x).f3.length c3, .int .i64 (upC x).f4, .int .i64 (upC x).f5, .slice A6 (upC x).f6.length c6] (fun k => w.heap.size ≤ k) (fun k => (wr.alloc (.cells #[.string x.f0, .string x.f1] 120)).heap.size ≤ k) rfl rfl (k104.M_lower HBA.out.size HM.out) (fun k hk => ⟨Nat.le_trans HBA.out.size hk, own_block_lt HR.out k (Nat.le_trans HSZ.out hk)⟩) (fun k hk => Nat.le_trans HB3.out.size hk) HR3.out HB3.out HB3.out.size (by rw [HLE.out]; omega) ?_; intro v1 w5 hr5 hb5 hg5 hat5; have HR5 := Aside0.mk hr5; have HB5 := Aside0.mk hb5; clear hr5 hb5 hg5 hat5))
      have hw1 : wrap64 ((j : Int) + 1) = ((j + 1 : Nat) : Int) := by unfold wrap64; omega
      go_roundw
      case rel => exact ⟨j + 1, _, by simp [hw1], hlt, ⟨HE.out.symm⟩, HR5, HB5⟩
      case measure => simp [intOf, hw1]; omega
    · have hlt7 : ¬ (j : Int) < (l.length : Int) := by omega
      have HZ := Aside0.mk (show l.take j = l from List.take_of_length_le (by omega))
      have HAE := Aside0.mk (show acc = l.map upC from by rw [HAC.out, HZ.out])
      subst hv
      go_wp2_with fail
      go_ret
      exact ⟨_, rfl, by rw [← HAE.out]; exact HR.out, HB.out⟩
def okX (x : S118) : Prop := 0 ≤ x.f3 ∧ x.f3 ≤ 255 ∧ 0 ≤ x.f4 ∧ x.f4 ≤ 65535 ∧ x.f5.length ≤ 1000000
theorem up_pod.calls (x : S118) (A5 : Option Addr) (c5 : Nat) (w : World) (h5 : k120.C w A5 x.f5.length x.f5) (hx : okX x) : Calls Tryz.prog 55 #[.agg #[.string x.f0, .string x.f1, .string x.f2, .int .u8 x.f3, .int .u16 x.f4, .slice A5 x.f5.length c5]] w (OneP k94 w (upP x)) := by
  have hX := blk_alloc (blk_new w (.cells #[.string x.f0, .string x.f1, .string x.f2, .int .u8 x.f3, .int .u16 x.f4, .slice A5 x.f5.length c5] 118)) (.cells #[.string ⟨#[]⟩, .string ⟨#[]⟩, .string ⟨#[]⟩, .int .i64 0, .int .i64 0, .bool false, .slice none 0 0] 94)
  have hR := blk_new (w.alloc (.cells #[.string x.f0, .string x.f1, .string x.f2, .int .u8 x.f3, .int .u16 x.f4, .slice A5 x.f5.length c5] 118)) (.cells #[.string ⟨#[]⟩, .string ⟨#[]⟩, .string ⟨#[]⟩, .int .i64 0, .int .i64 0, .bool false, .slice none 0 0] 94)
  have hB := below_alloc (below_alloc (Below.refl w.heap.size w) (.cells #[.string x.f0, .string x.f1, .string x.f2, .int .u8 x.f3, .int .u16 x.f4, .slice A5 x.f5.length c5] 118)) (.cells #[.string ⟨#[]⟩, .string ⟨#[]⟩, .string ⟨#[]⟩, .int .i64 0, .int .i64 0, .bool false, .slice none 0 0] 94)
  rw [World_size_alloc2] at hR
  have e0 : ((w.alloc (.cells #[.string x.f0, .string x.f1, .string x.f2, .int .u8 x.f3, .int .u16 x.f4, .slice A5 x.f5.length c5] 118)).alloc (.cells #[.string ⟨#[]⟩, .string ⟨#[]⟩, .string ⟨#[]⟩, .int .i64 0, .int .i64 0, .bool false, .slice none 0 0] 94)).cell? ⟨w.heap.size, 0, none⟩ = some (.string x.f0) := by rw [blk_cell hX]; rfl
  have e1 : ((w.alloc (.cells #[.string x.f0, .string x.f1, .string x.f2, .int .u8 x.f3, .int .u16 x.f4, .slice A5 x.f5.length c5] 118)).alloc (.cells #[.string ⟨#[]⟩, .string ⟨#[]⟩, .string ⟨#[]⟩, .int .i64 0, .int .i64 0, .bool false, .slice none 0 0] 94)).cell? ⟨w.heap.size, 1, none⟩ = some (.string x.f1) := by rw [blk_cell hX]; rfl
  have e2 : ((w.alloc (.cells #[.string x.f0, .string x.f1, .string x.f2, .int .u8 x.f3, .int .u16 x.f4, .slice A5 x.f5.length c5] 118)).alloc (.cells #[.string ⟨#[]⟩, .string ⟨#[]⟩, .string ⟨#[]⟩, .int .i64 0, .int .i64 0, .bool false, .slice none 0 0] 94)).cell? ⟨w.heap.size, 2, none⟩ = some (.string x.f2) := by rw [blk_cell hX]; rfl
  have e3 : ((w.alloc (.cells #[.string x.f0, .string x.f1, .string x.f2, .int .u8 x.f3, .int .u16 x.f4, .slice A5 x.f5.length c5] 118)).alloc (.cells #[.string ⟨#[]⟩, .string ⟨#[]⟩, .string ⟨#[]⟩, .int .i64 0, .int .i64 0, .bool false, .slice none 0 0] 94)).cell? ⟨w.heap.size, 3, none⟩ = some (.int .u8 x.f3) := by rw [blk_cell hX]; rfl
  have e4 : ((w.alloc (.cells #[.string x.f0, .string x.f1, .string x.f2, .int .u8 x.f3, .int .u16 x.f4, .slice A5 x.f5.length c5] 118)).alloc (.cells #[.string ⟨#[]⟩, .string ⟨#[]⟩, .string ⟨#[]⟩, .int .i64 0, .int .i64 0, .bool false, .slice none 0 0] 94)).cell? ⟨w.heap.size, 4, none⟩ = some (.int .u16 x.f4) := by rw [blk_cell hX]; rfl
  have e5 : ((w.alloc (.cells #[.string x.f0, .string x.f1, .string x.f2, .int .u8 x.f3, .int .u16 x.f4, .slice A5 x.f5.length c5] 118)).alloc (.cells #[.string ⟨#[]⟩, .string ⟨#[]⟩, .string ⟨#[]⟩, .int .i64 0, .int .i64 0, .bool false, .slice none 0 0] 94)).cell? ⟨w.heap.size, 5, none⟩ = some (.slice A5 x.f5.length c5) := by rw [blk_cell hX]; rfl
  have HR := Aside0.mk hR
  have HB := Aside0.mk hB
  have HC := Aside0.mk h5
  have HE := Aside0.mk (And.intro e0 (And.intro e1 (And.intro e2 (And.intro e3 (And.intro e4 e5)))))
  obtain ⟨g1, g2, g3, g4, g5⟩ := hx
  have q1 : IntKind.i64.wrap x.f3 = x.f3 := IntWalk.i64_in _ (by omega)
  have q2 : IntKind.i64.wrap x.f4 = x.f4 := IntWalk.i64_in _ (by omega)
  have q3 : wrap64 x.f3 = x.f3 := IntWalk.wrap64_in _ (by omega)
  have q4 : wrap64 x.f4 = x.f4 := IntWalk.wrap64_in _ (by omega)
  clear hX hR hB e0 e1 e2 e3 e4 e5 h5 g1 g2 g3 g4
  go_enter Tryz.func55, Tryz.ntmps55
  go_wp2_with fail
  refine start_ (n := 18) (S := fun w' => w'.cell? ⟨w.heap.size, 0, none⟩ = some (.string x.f0) ∧ w'.cell? ⟨w.heap.size, 1, none⟩ = some (.string x.f1) ∧ w'.cell? ⟨w.heap.size, 2, none⟩ = some (.string x.f2) ∧ w'.cell? ⟨w.heap.size, 3, none⟩ = some (.int .u8 x.f3) ∧ w'.cell? ⟨w.heap.size, 4, none⟩ = some (.int .u16 x.f4) ∧ w'.cell? ⟨w.heap.size, 5, none⟩ = some (.slice A5 x.f5.length c5) ∧ w'.heap[w.heap.size + 1]? = some (.cells #[.string ⟨#[]⟩, .string ⟨#[]⟩, .string ⟨#[]⟩, .int .i64 0, .int .i64 0, .bool false, .slice none 0 0] 94 (0, 0)) ∧ Below w.heap.size w w') (ds := [17]) #[false, false, false, false, false, false, false, false, false, false, false, false, false, false, false, false, false, false] (by kernel_rfl) rfl rfl ⟨(show ((w.alloc (.cells #[.string x.f0, .string x.f1, .string x.f2, .int .u8 x.f3, .int .u16 x.f4, .slice A5 x.f5.length c5] 118)).alloc (.cells #[.string ⟨#[]⟩, .string ⟨#[]⟩, .string ⟨#[]⟩, .int .i64 0, .int .i64 0, .bool false, .slice none 0 0] 94)).drew.cell? ⟨w.heap.size, 0, none⟩ = _ from HE.out.1), (show ((w.alloc (.cells #[.string x.f0, .string x.f1, .string x.f2, .int .u8 x.f3, .int .u16 x.f4, .slice A5 x.f5.length c5] 118)).alloc (.cells #[.string ⟨#[]⟩, .string ⟨#[]⟩, .string ⟨#[]⟩, .int .i64 0, .int .i64 0, .bool false, .slice none 0 0] 94)).drew.cell? ⟨w.heap.size, 1, none⟩ = _ from HE.out.2.1), (show ((w.alloc (.cells #[.string x.f0, .string x.f1, .string x.f2, .int .u8 x.f3, .int .u16 x.f4, .slice A5 x.f5.length c5] 118)).alloc (.cells #[.string ⟨#[]⟩, .string ⟨#[]⟩, .string ⟨#[]⟩, .int .i64 0, .int .i64 0, .bool false, .slice none 0 0] 94)).drew.cell? ⟨w.heap.size, 2, none⟩ = _ from HE.out.2.2.1), (show ((w.alloc (.cells #[.string x.f0, .string x.f1, .string x.f2, .int .u8 x.f3, .int .u16 x.f4, .slice A5 x.f5.length c5] 118)).alloc (.cells #[.string ⟨#[]⟩, .string ⟨#[]⟩, .string ⟨#[]⟩, .int .i64 0, .int .i64 0, .bool false, .slice none 0 0] 94)).drew.cell? ⟨w.heap.size, 3, none⟩ = _ from HE.out.2.2.2.1), (show ((w.alloc (.cells #[.string x.f0, .string x.f1, .string x.f2, .int .u8 x.f3, .int .u16 x.f4, .slice A5 x.f5.length c5] 118)).alloc (.cells #[.string ⟨#[]⟩, .string ⟨#[]⟩, .string ⟨#[]⟩, .int .i64 0, .int .i64 0, .bool false, .slice none 0 0] 94)).drew.cell? ⟨w.heap.size, 4, none⟩ = _ from HE.out.2.2.2.2.1), (show ((w.alloc (.cells #[.string x.f0, .string x.f1, .string x.f2, .int .u8 x.f3, .int .u16 x.f4, .slice A5 x.f5.length c5] 118)).alloc (.cells #[.string ⟨#[]⟩, .string ⟨#[]⟩, .string ⟨#[]⟩, .int .i64 0, .int .i64 0, .bool false, .slice none 0 0] 94)).drew.cell? ⟨w.heap.size, 5, none⟩ = _ from HE.out.2.2.2.2.2), (show ((w.alloc (.cells #[.string x.f0, .string x.f1, .string x.f2, .int .u8 x.f3, .int .u16 x.f4, .slice A5 x.f5.length c5] 118)).alloc (.cells #[.string ⟨#[]⟩, .string ⟨#[]⟩, .string ⟨#[]⟩, .int .i64 0, .int .i64 0, .bool false, .slice none 0 0] 94)).drew.heap[w.heap.size + 1]? = _ from HR.out), (below_drew1 HB.out)⟩ (fun hHeld => ?_)
  refine pure_ (i := 0) (N := some 3) (v := ?_) (a' := ?_) #[true, false, false, false, false, false, false, false, false, false, false, false, false, false, false, false, false, false] rfl rfl (by kernel_rfl) (fun _ _ _ h => h) (Or.inl ⟨by rfl, ?_⟩) ?_ ?_
  rotate_left
  · intro w'
    go_simp
    with_reducible rfl
  rotate_left
  · simp only [Act.put, List.setIfInBounds_toArray, List.set_cons_zero, List.set_cons_succ, i64_w, i32_w]
    rfl
  refine pure_ (i := 2) (N := some 5) (v := ?_) (a' := ?_) #[true, false, true, false, false, false, false, false, false, false, false, false, false, false, false, false, false, false] rfl rfl (by kernel_rfl) (fun _ _ _ h => h) (Or.inl ⟨by rfl, ?_⟩) ?_ ?_
  rotate_left
  · intro w'
    go_simp
    with_reducible rfl
  rotate_left
  · simp only [Act.put, List.setIfInBounds_toArray, List.set_cons_zero, List.set_cons_succ, i64_w, i32_w]
    rfl
  refine pure_ (i := 4) (N := some 7) (v := ?_) (a' := ?_) #[true, false, true, false, true, false, false, false, false, false, false, false, false, false, false, false, false, false] rfl rfl (by kernel_rfl) (fun _ _ _ h => h) (Or.inl ⟨by rfl, ?_⟩) ?_ ?_
  rotate_left
  · intro w'
    go_simp
    with_reducible rfl
  rotate_left
  · simp only [Act.put, List.setIfInBounds_toArray, List.set_cons_zero, List.set_cons_succ, i64_w, i32_w]
    rfl
  refine pure_ (i := 6) (N := some 9) (v := ?_) (a' := ?_) #[true, false, true, false, true, false, true, false, false, false, false, false, false, false, false, false, false, false] rfl rfl (by kernel_rfl) (fun _ _ _ h => h) (Or.inl ⟨by rfl, ?_⟩) ?_ ?_
  rotate_left
  · intro w'
    go_simp
    with_reducible rfl
  rotate_left
  · simp only [Act.put, List.setIfInBounds_toArray, List.set_cons_zero, List.set_cons_succ, i64_w, i32_w]
    rfl
  refine pure_ (i := 9) (N := some 12) (v := ?_) (a' := ?_) #[true, false, true, false, true, false, true, false, false, true, false, false, false, false, false, false, false, false] rfl rfl (by kernel_rfl) (fun _ _ _ h => h) (Or.inl ⟨by rfl, ?_⟩) ?_ ?_
  rotate_left
  · intro w'
    go_simp
    with_reducible rfl
  rotate_left
  · simp only [Act.put, List.setIfInBounds_toArray, List.set_cons_zero, List.set_cons_succ, i64_w, i32_w]
    rfl
  refine pure_ (i := 12) (N := some 15) (v := ?_) (a' := ?_) #[true, false, true, false, true, false, true, false, false, true, false, false, true, false, false, false, false, false] rfl rfl (by kernel_rfl) (fun _ _ _ h => h) (Or.inl ⟨by rfl, ?_⟩) ?_ ?_
  rotate_left
  · intro w'
    go_simp
    with_reducible rfl
  rotate_left
  · simp only [Act.put, List.setIfInBounds_toArray, List.set_cons_zero, List.set_cons_succ, i64_w, i32_w]
    rfl
  refine take_ (i := 1) (N := some 4) (v := ?_) (a' := ?_) #[true, true, true, false, true, false, true, false, false, true, false, false, true, false, false, false, false, false] rfl rfl (by kernel_rfl) (fun _ _ _ h => h) (Or.inl ⟨by rfl, ?_⟩) hHeld ?_ ?_
  rotate_left
  · rintro w' ⟨s0, s1, s2, s3, s4, s5, s6, s7⟩
    go_simp
    with_reducible rfl
  rotate_left
  · simp only [Act.put, List.setIfInBounds_toArray, List.set_cons_zero, List.set_cons_succ, i64_w, i32_w]
    rfl
  refine take_ (i := 3) (N := some 6) (v := ?_) (a' := ?_) #[true, true, true, true, true, false, true, false, false, true, false, false, true, false, false, false, false, false] rfl rfl (by kernel_rfl) (fun _ _ _ h => h) (Or.inl ⟨by rfl, ?_⟩) hHeld ?_ ?_
  rotate_left
  · rintro w' ⟨s0, s1, s2, s3, s4, s5, s6, s7⟩
    go_simp
    with_reducible rfl
  rotate_left
  · simp only [Act.put, List.setIfInBounds_toArray, List.set_cons_zero, List.set_cons_succ, i64_w, i32_w]
    rfl
  refine take_ (i := 5) (N := some 8) (v := ?_) (a' := ?_) #[true, true, true, true, true, true, true, false, false, true, false, false, true, false, false, false, false, false] rfl rfl (by kernel_rfl) (fun _ _ _ h => h) (Or.inl ⟨by rfl, ?_⟩) hHeld ?_ ?_
  rotate_left
  · rintro w' ⟨s0, s1, s2, s3, s4, s5, s6, s7⟩
    go_simp
    with_reducible rfl
  rotate_left
  · simp only [Act.put, List.setIfInBounds_toArray, List.set_cons_zero, List.set_cons_succ, i64_w, i32_w]
    rfl
  refine take_ (i := 7) (N := some 10) (v := ?_) (a' := ?_) #[true, true, true, true, true, true, true, true, false, true, false, false, true, false, false, false, false, false] rfl rfl (by kernel_rfl) (fun _ _ _ h => h) (Or.inl ⟨by rfl, ?_⟩) hHeld ?_ ?_
  rotate_left
  · rintro w' ⟨s0, s1, s2, s3, s4, s5, s6, s7⟩
    go_simp
    with_reducible rfl
  rotate_left
  · simp only [Act.put, List.setIfInBounds_toArray, List.set_cons_zero, List.set_cons_succ, i64_w, i32_w]
    rfl
  refine pure_ (i := 8) (N := some 11) (v := ?_) (a' := ?_) #[true, true, true, true, true, true, true, true, true, true, false, false, true, false, false, false, false, false] rfl rfl (by kernel_rfl) (fun _ _ _ h => h) (Or.inl ⟨by rfl, ?_⟩) ?_ ?_
  rotate_left
  · intro w'
    go_simp
    with_reducible rfl
  rotate_left
  · simp only [Act.put, List.setIfInBounds_toArray, List.set_cons_zero, List.set_cons_succ, i64_w, i32_w]
    rfl
  refine take_ (i := 10) (N := some 13) (v := ?_) (a' := ?_) #[true, true, true, true, true, true, true, true, true, true, true, false, true, false, false, false, false, false] rfl rfl (by kernel_rfl) (fun _ _ _ h => h) (Or.inl ⟨by rfl, ?_⟩) hHeld ?_ ?_
  rotate_left
  · rintro w' ⟨s0, s1, s2, s3, s4, s5, s6, s7⟩
    go_simp
    with_reducible rfl
  rotate_left
  · simp only [Act.put, List.setIfInBounds_toArray, List.set_cons_zero, List.set_cons_succ, i64_w, i32_w]
    rfl
  refine pure_ (i := 11) (N := some 14) (v := ?_) (a' := ?_) #[true, true, true, true, true, true, true, true, true, true, true, true, true, false, false, false, false, false] rfl rfl (by kernel_rfl) (fun _ _ _ h => h) (Or.inl ⟨by rfl, ?_⟩) ?_ ?_
  rotate_left
  · intro w'
    go_simp
    with_reducible rfl
  rotate_left
  · simp only [Act.put, List.setIfInBounds_toArray, List.set_cons_zero, List.set_cons_succ, i64_w, i32_w]
    rfl
  refine take_ (i := 13) (N := some 16) (v := ?_) (a' := ?_) #[true, true, true, true, true, true, true, true, true, true, true, true, true, true, false, false, false, false] rfl rfl (by kernel_rfl) (fun _ _ _ h => h) (Or.inl ⟨by rfl, ?_⟩) hHeld ?_ ?_
  rotate_left
  · rintro w' ⟨s0, s1, s2, s3, s4, s5, s6, s7⟩
    go_simp
    with_reducible rfl
  rotate_left
  · simp only [Act.put, List.setIfInBounds_toArray, List.set_cons_zero, List.set_cons_succ, i64_w, i32_w]
    rfl
  refine one_ (i := 14) (N := some 17) #[true, true, true, true, true, true, true, true, true, true, true, true, true, true, true, false, false, false] rfl rfl (by kernel_rfl) (by decide) (fun K hK => ?_)
  refine goes_ Tryz.func56 (by kernel_rfl) rfl #[.slice A5 x.f5.length c5, .func (.func 57) #[] #[]] (by rfl) rfl rfl (by simp only [List.map_toArray, List.map_cons, List.map_nil]; rfl) ?_
  with_reducible refine (each56.calls A5 c5 x.f5 _ (Kd.C_below HC.out hHeld.2.2.2.2.2.2.2) g5).mono ?_
  rintro e w3 ⟨v, rfl, hr, hb⟩
  refine ⟨_, rfl, ?_⟩
  obtain ⟨A6, c6, rfl⟩ := R_slice hr
  rw [List.length_map] at hr
  have HRR := Aside0.mk hr
  have HLT := Aside0.mk (blk_lt hHeld.2.2.2.2.2.2.1)
  have HBW := Aside0.mk hHeld.2.2.2.2.2.2.2.size
  refine hK.out _ _ ⟨cell_below_ hb hHeld.1, cell_below_ hb hHeld.2.1, cell_below_ hb hHeld.2.2.1, cell_below_ hb hHeld.2.2.2.1, cell_below_ hb hHeld.2.2.2.2.1, cell_below_ hb hHeld.2.2.2.2.2.1, blk_below hHeld.2.2.2.2.2.2.1 hb, below_step hHeld.2.2.2.2.2.2.2 hb⟩ (fun hNow => ?_)
  clear hK K hHeld
  have hHeld := hNow
  clear hNow
  refine norm_ (a' := ?_) ?_ ?_
  rotate_left
  · show Act.put _ (some 17) _ = _
    simp only [Act.put, List.setIfInBounds_toArray, List.set_cons_zero, List.set_cons_succ, i64_w, i32_w]
    rfl
  refine pure_ (i := 15) (N := some 18) (v := ?_) (a' := ?_) #[true, true, true, true, true, true, true, true, true, true, true, true, true, true, true, true, false, false] rfl rfl (by kernel_rfl) (fun _ _ _ h => h) (Or.inl ⟨by rfl, ?_⟩) ?_ ?_
  rotate_left
  · intro w'
    go_simp
    with_reducible rfl
  rotate_left
  · simp only [Act.put, List.setIfInBounds_toArray, List.set_cons_zero, List.set_cons_succ, i64_w, i32_w]
    rfl
  refine pure_ (i := 16) (N := some 19) (v := ?_) (a' := ?_) #[true, true, true, true, true, true, true, true, true, true, true, true, true, true, true, true, true, false] rfl rfl (by kernel_rfl) (fun _ _ _ h => h) (Or.inl ⟨by rfl, ?_⟩) ?_ ?_
  rotate_left
  · intro w'
    go_simp
    with_reducible rfl
  rotate_left
  · simp only [Act.put, List.setIfInBounds_toArray, List.set_cons_zero, List.set_cons_succ, i64_w, i32_w]
    rfl
  refine last_ (i := 17) (N := none) #[true, true, true, true, true, true, true, true, true, true, true, true, true, true, true, true, true, true] rfl rfl (by kernel_rfl) (by decide) (fun K hK => ?_)
  have HS3 := Aside0.mk hHeld
  have z0 : w3.cell? ⟨w.heap.size + 1, 0, none⟩ = some (.string ⟨#[]⟩) := by rw [blk_cell hHeld.2.2.2.2.2.2.1]; rfl
  have z1 : w3.cell? ⟨w.heap.size + 1, 1, none⟩ = some (.string ⟨#[]⟩) := by rw [blk_cell hHeld.2.2.2.2.2.2.1]; rfl
  have z2 : w3.cell? ⟨w.heap.size + 1, 2, none⟩ = some (.string ⟨#[]⟩) := by rw [blk_cell hHeld.2.2.2.2.2.2.1]; rfl
  have z3 : w3.cell? ⟨w.heap.size + 1, 3, none⟩ = some (.int .i64 0) := by rw [blk_cell hHeld.2.2.2.2.2.2.1]; rfl
  have z4 : w3.cell? ⟨w.heap.size + 1, 4, none⟩ = some (.int .i64 0) := by rw [blk_cell hHeld.2.2.2.2.2.2.1]; rfl
  have z5 : w3.cell? ⟨w.heap.size + 1, 5, none⟩ = some (.bool false) := by rw [blk_cell hHeld.2.2.2.2.2.2.1]; rfl
  have z6 : w3.cell? ⟨w.heap.size + 1, 6, none⟩ = some (.slice none 0 0) := by rw [blk_cell hHeld.2.2.2.2.2.2.1]; rfl
  have y0 := blk_frozen hHeld.2.2.2.2.2.2.1 0
  have y1 := blk_frozen hHeld.2.2.2.2.2.2.1 1
  have y2 := blk_frozen hHeld.2.2.2.2.2.2.1 2
  have y3 := blk_frozen hHeld.2.2.2.2.2.2.1 3
  have y4 := blk_frozen hHeld.2.2.2.2.2.2.1 4
  have y5 := blk_frozen hHeld.2.2.2.2.2.2.1 5
  have y6 := blk_frozen hHeld.2.2.2.2.2.2.1 6
  refine skip_ (w1 := ?_) (by rfl) rfl ?_ ?_
  rotate_left
  · go_simp
    rfl
  refine hK.out _ _ ?_
  clear hK K
  refine done_ (by kernel_rfl) ?_
  clear hHeld z0 z1 z2 z3 z4 z5 z6 y0 y1 y2 y3 y4 y5 y6 q1 q2 q3 q4
  go_wp2_with fail
  have hq := put7_blk HS3.out.2.2.2.2.2.2.1 (.string x.f0) (.string x.f1) (.string x.f2) (.int .i64 x.f3) (.int .i64 x.f4) (.bool false) (.slice A6 x.f5.length c6)
  have p0 := (blk_cell hq 0).trans rfl
  have p1 := (blk_cell hq 1).trans rfl
  have p2 := (blk_cell hq 2).trans rfl
  have p3 := (blk_cell hq 3).trans rfl
  have p4 := (blk_cell hq 4).trans rfl
  have p5 := (blk_cell hq 5).trans rfl
  have p6 := (blk_cell hq 6).trans rfl
  unfold put7 at p0 p1 p2 p3 p4 p5 p6
  clear hq
  refine bodyPost_ret (v := .agg #[.string x.f0, .string x.f1, .string x.f2, .int .i64 x.f3, .int .i64 x.f4, .bool false, .slice A6 x.f5.length c6]) (by simp [results, Tryz.results55, go_sem, p0, p1, p2, p3, p4, p5, p6]) rfl ?_
  refine ⟨[.string x.f0, .string x.f1, .string x.f2, .int .i64 x.f3, .int .i64 x.f4, .bool false, .slice A6 x.f5.length c6], rfl, k94_mkM _ _ _ (upP x) ?_, put7_below HS3.out.2.2.2.2.2.2.2 (by omega) (.string x.f0) (.string x.f1) (.string x.f2) (.int .i64 x.f3) (.int .i64 x.f4) (.bool false) (.slice A6 x.f5.length c6)⟩
  have hk := Kd.R_keep HRR.out (put7_keep w3 (w.heap.size + 1) (.string x.f0) (.string x.f1) (.string x.f2) (.int .i64 x.f3) (.int .i64 x.f4) (.bool false) (.slice A6 x.f5.length c6)) (fun k hk => by have := HLT.out; omega)
  exact Kd.R_lower (Kd.R_mono hk (fun k hk => Nat.le_trans HBW.out hk)) HBW.out
theorem k94_M_open {w : World} {base : Nat} {ok : Nat → Prop} {x : S94} {cs : List Value} (h : k94.M w base ok x cs) : ∃ A c, cs = [.string x.f0, .string x.f1.f0, .string x.f1.f1, .int .i64 x.f1.f2, .int .i64 x.f1.f3, .bool x.f1.f4, .slice A x.f1.f5.length c] := by
  obtain ⟨_, _, rfl, rfl, h⟩ := h
  obtain ⟨v5, rfl, hr⟩ := k92_openM h
  obtain ⟨A, c, rfl⟩ := R_slice hr
  exact ⟨A, c, rfl⟩
theorem each54.calls (A1 : Option Addr) (c1 : Nat) (l : List S118) (w : World) (h1 : k118.C w A1 l.length l) (hl : l.length ≤ 1000000) (hx : ∀ x ∈ l, okX x) :
    Calls Tryz.prog 54 #[.slice A1 l.length c1, .func (.func 55) #[] #[]] w (EachP k94 94 w (l.map upP)) := by
  have H1 := Aside0.mk h1
  clear h1
  go_enter Tryz.func54, Tryz.ntmps54
  go_wp2_with fail
  go_loopw [5, 10] (fun v5 v10 wr => ∃ (j : Nat) (acc : List S94), v10 = .int .i64 (j : Int) ∧ j ≤ l.length ∧ Aside0 (acc = (l.take j).map upP) ∧ Aside0 (k94.R 94 wr w.heap.size (fun k => w.heap.size ≤ k) v5 acc) ∧ Aside0 (Below w.heap.size w wr)) (fun _ v10 _ => l.length - (intOf v10).toNat)
  case atStart => exact ⟨0, [], rfl, Nat.zero_le _, ⟨by simp⟩, ⟨Kd.R_nil k94 94 w w.heap.size (fun k => w.heap.size ≤ k)⟩, ⟨Below.refl _ _⟩⟩
  case round =>
    obtain ⟨j, acc, rfl, hj, HAC, HR, HB⟩ := hrel
    obtain ⟨A0, c0, hv⟩ := R_slice HR.out
    by_cases hlt : j < l.length
    · have hlt2 : (j : Int) < (l.length : Int) := by omega
      have hj0 : (0 : Int) ≤ (j : Int) := by omega
      obtain ⟨ad, A5, c5, ea, q0, q1, q2, q3, q4, q5, n5, g5⟩ := at_T118 H1.out (j : Int) hj0 hlt2
      subst ea
      have HX := Aside0.mk (show okX (rd_T118 l (j : Int)) from by rw [show rd_T118 l (j : Int) = l[j] from by simp [rd_T118, List.getD, List.getElem?_eq_getElem hlt]]; exact hx _ (List.getElem_mem hlt))
      rw [Int.toNat_natCast] at q0 q1 q2 q3 q4 q5
      replace q0 := cell_below_ HB.out q0
      replace q1 := cell_below_ HB.out q1
      replace q2 := cell_below_ HB.out q2
      replace q3 := cell_below_ HB.out q3
      replace q4 := cell_below_ HB.out q4
      replace q5 := cell_below_ HB.out q5
      have hrd : rd_T118 l (j : Int) = l[j] := by simp [rd_T118, List.getD, List.getElem?_eq_getElem hlt]
      have HE := Aside0.mk (show (l.take (j + 1)).map upP = acc ++ [upP (rd_T118 l (j : Int))] from by rw [HAC.out, hrd, List.take_succ_eq_append_getElem hlt, List.map_append]; rfl)
      have HLE := Aside0.mk (show acc.length = j from by rw [HAC.out]; simp; omega)
      clear hrd
      generalize rd_T118 l (j : Int) = x at q0 q1 q2 q3 q4 q5 HE n5 g5 HX
      subst hv
      have cOne := up_pod.calls x A5 c5 (wr.alloc (.cells #[.string x.f0, .string x.f1, .string x.f2, .int .u8 x.f3, .int .u16 x.f4, .slice A5 x.f5.length c5] 118)) (Kd.C_below g5 (below_alloc HB.out _)) HX.out
      clear n5 g5
      have HBA := Aside0.mk (below_alloc HB.out (.cells #[.string x.f0, .string x.f1, .string x.f2, .int .u8 x.f3, .int .u16 x.f4, .slice A5 x.f5.length c5] 118))
      have HSZ := Aside0.mk (show wr.heap.size ≤ (wr.alloc (.cells #[.string x.f0, .string x.f1, .string x.f2, .int .u8 x.f3, .int .u16 x.f4, .slice A5 x.f5.length c5] 118)).heap.size from by simp)
      go_wp2_with (first | (go_at_call 55; refine cOne.mono ?_; rintro e w3 ⟨cs, rfl, hM, hb⟩; obtain ⟨A2, c2, rfl⟩ := k94_M_open hM; have HM := Aside0.mk hM; have HB3 := Aside0.mk (below_step HBA.out hb); have HR3 := Aside0.mk (Kd.R_below (Kd.R_below HR.out (below_alloc (Below.refl _ _) (.cells #[.string x.f0, .string x.f1, .string x.f2, .int .u8 x.f3, .int .u16 x.f4, .slice A5 x.f5.length c5] 118))) hb); have HS3 := Aside0.mk hb.size; clear hM hb cOne q0 q1 q2 q3 q4 q5) | (at_builtin; refine Kd.R_append k94 (w0 := w) w.heap.size rfl (.tmp 14) (.tmp 18) 26 94 (.agg #[.string ⟨#[]⟩, .string ⟨#[]⟩, .string ⟨#[]⟩, .int .i64 0, .int .i64 0, .bool false, .slice none 0 0]) 96 (by rfl) Tryz.underlying26 info94 rfl (by decide) (by decide) (.slice A0 acc.length c0) acc (upP x) [.string (upP x).f0, .string (upP x).f1.f0, .string (upP x).f1.f1, .int .i64 (upP x).f1.f2, .int .i64 (upP x).f1.f3, .bool (upP x).f1.f4, .slice A2 (upP x).f1.f5.length c2] (fun k => w.heap.size ≤ k) (fun k => (wr.alloc (.cells #[.string x.f0, .string x.f1, .string x.f2, .int .u8 x.f3, .int .u16 x.f4, .slice A5 x.f5.length c5] 118)).heap.size ≤ k) rfl rfl (k94.M_lower HBA.out.size HM.out) (fun k hk => ⟨Nat.le_trans HBA.out.size hk, own_block_lt HR.out k (Nat.le_trans HSZ.out hk)⟩) (fun k hk => Nat.le_trans HB3.out.size hk) HR3.out HB3.out HB3.out.size (by rw [HLE.out]; omega) ?_; intro v1 w5 hr5 hb5 hg5 hat5; have HR5 := Aside0.mk hr5; have HB5 := Aside0.mk hb5; clear hr5 hb5 hg5 hat5))
      have hw1 : wrap64 ((j : Int) + 1) = ((j + 1 : Nat) : Int) := by unfold wrap64; omega
      go_roundw
      case rel => exact ⟨j + 1, _, by simp [hw1], hlt, ⟨HE.out.symm⟩, HR5, HB5⟩
      case measure => simp [intOf, hw1]; omega
    · have hlt7 : ¬ (j : Int) < (l.length : Int) := by omega
      have HZ := Aside0.mk (show l.take j = l from List.take_of_length_le (by omega))
      have HAE := Aside0.mk (show acc = l.map upP from by rw [HAC.out, HZ.out])
      subst hv
      go_wp2_with fail
      go_ret
      exact ⟨_, rfl, by rw [← HAE.out]; exact HR.out, HB.out⟩
theorem upgrade_Three.calls (sq : Int) (A1 : Option Addr) (c1 : Nat) (l : List S118) (w : World) (h1 : k118.C w A1 l.length l) (hl : l.length ≤ 1000000) (hx : ∀ x ∈ l, okX x) :
    Calls Tryz.prog 23 #[.agg #[.int .u64 sq, .slice A1 l.length c1]] w fun e w' => ∃ v, e = .returned (.agg #[.int .u64 sq, v]) ∧ k94.R 94 w' w.heap.size (fun k => w.heap.size ≤ k) v (l.map upP) ∧ Below w.heap.size w w' := by
  have hX := blk_alloc (blk_new w (.cells #[.int .u64 sq, .slice A1 l.length c1] 59)) (.cells #[.int .u64 0, .slice none 0 0] 28)
  have hR := blk_new (w.alloc (.cells #[.int .u64 sq, .slice A1 l.length c1] 59)) (.cells #[.int .u64 0, .slice none 0 0] 28)
  have hB := below_alloc (below_alloc (Below.refl w.heap.size w) (.cells #[.int .u64 sq, .slice A1 l.length c1] 59)) (.cells #[.int .u64 0, .slice none 0 0] 28)
  rw [World_size_alloc2] at hR
  have e0 : ((w.alloc (.cells #[.int .u64 sq, .slice A1 l.length c1] 59)).alloc (.cells #[.int .u64 0, .slice none 0 0] 28)).cell? ⟨w.heap.size, 0, none⟩ = some (.int .u64 sq) := by rw [blk_cell hX]; rfl
  have e1 : ((w.alloc (.cells #[.int .u64 sq, .slice A1 l.length c1] 59)).alloc (.cells #[.int .u64 0, .slice none 0 0] 28)).cell? ⟨w.heap.size, 1, none⟩ = some (.slice A1 l.length c1) := by rw [blk_cell hX]; rfl
  have HR := Aside0.mk hR
  have HB := Aside0.mk hB
  have HC := Aside0.mk h1
  have HE := Aside0.mk (And.intro e0 e1)
  clear hX hR hB e0 e1 h1
  go_enter Tryz.func23, Tryz.ntmps23
  go_wp2_with fail
  refine start_ (n := 7) (S := fun w' => w'.cell? ⟨w.heap.size, 0, none⟩ = some (.int .u64 sq) ∧ w'.cell? ⟨w.heap.size, 1, none⟩ = some (.slice A1 l.length c1) ∧ w'.heap[w.heap.size + 1]? = some (.cells #[.int .u64 0, .slice none 0 0] 28 (0, 0)) ∧ Below w.heap.size w w') (ds := [6]) #[false, false, false, false, false, false, false] (by kernel_rfl) rfl rfl ⟨(show ((w.alloc (.cells #[.int .u64 sq, .slice A1 l.length c1] 59)).alloc (.cells #[.int .u64 0, .slice none 0 0] 28)).drew.cell? ⟨w.heap.size, 0, none⟩ = _ from HE.out.1), (show ((w.alloc (.cells #[.int .u64 sq, .slice A1 l.length c1] 59)).alloc (.cells #[.int .u64 0, .slice none 0 0] 28)).drew.cell? ⟨w.heap.size, 1, none⟩ = _ from HE.out.2), (show ((w.alloc (.cells #[.int .u64 sq, .slice A1 l.length c1] 59)).alloc (.cells #[.int .u64 0, .slice none 0 0] 28)).drew.heap[w.heap.size + 1]? = _ from HR.out), (below_drew1 HB.out)⟩ (fun hHeld => ?_)
  refine pure_ (i := 0) (N := some 3) (v := ?_) (a' := ?_) #[true, false, false, false, false, false, false] rfl rfl (by kernel_rfl) (fun _ _ _ h => h) (Or.inl ⟨by rfl, ?_⟩) ?_ ?_
  rotate_left
  · intro w'
    go_simp
    with_reducible rfl
  rotate_left
  · simp only [Act.put, List.setIfInBounds_toArray, List.set_cons_zero, List.set_cons_succ, i64_w, i32_w]
    rfl
  refine pure_ (i := 2) (N := some 5) (v := ?_) (a' := ?_) #[true, false, true, false, false, false, false] rfl rfl (by kernel_rfl) (fun _ _ _ h => h) (Or.inl ⟨by rfl, ?_⟩) ?_ ?_
  rotate_left
  · intro w'
    go_simp
    with_reducible rfl
  rotate_left
  · simp only [Act.put, List.setIfInBounds_toArray, List.set_cons_zero, List.set_cons_succ, i64_w, i32_w]
    rfl
  refine take_ (i := 1) (N := some 4) (v := ?_) (a' := ?_) #[true, true, true, false, false, false, false] rfl rfl (by kernel_rfl) (fun _ _ _ h => h) (Or.inl ⟨by rfl, ?_⟩) hHeld ?_ ?_
  rotate_left
  · rintro w' ⟨s0, s1, s2, s3⟩
    go_simp
    with_reducible rfl
  rotate_left
  · simp only [Act.put, List.setIfInBounds_toArray, List.set_cons_zero, List.set_cons_succ, i64_w, i32_w]
    rfl
  refine take_ (i := 3) (N := some 6) (v := ?_) (a' := ?_) #[true, true, true, true, false, false, false] rfl rfl (by kernel_rfl) (fun _ _ _ h => h) (Or.inl ⟨by rfl, ?_⟩) hHeld ?_ ?_
  rotate_left
  · rintro w' ⟨s0, s1, s2, s3⟩
    go_simp
    with_reducible rfl
  rotate_left
  · simp only [Act.put, List.setIfInBounds_toArray, List.set_cons_zero, List.set_cons_succ, i64_w, i32_w]
    rfl
  refine one_ (i := 4) (N := some 7) #[true, true, true, true, true, false, false] rfl rfl (by kernel_rfl) (by decide) (fun K hK => ?_)
  refine goes_ Tryz.func54 (by kernel_rfl) rfl #[.slice A1 l.length c1, .func (.func 55) #[] #[]] (by rfl) rfl rfl (by simp only [List.map_toArray, List.map_cons, List.map_nil]; rfl) ?_
  with_reducible refine (each54.calls A1 c1 l _ (Kd.C_below HC.out hHeld.2.2.2) hl hx).mono ?_
  rintro e w3 ⟨v, rfl, hr, hb⟩
  refine ⟨_, rfl, ?_⟩
  obtain ⟨A6, c6, rfl⟩ := R_slice hr
  rw [List.length_map] at hr
  have HRR := Aside0.mk hr
  have HLT := Aside0.mk (blk_lt hHeld.2.2.1)
  have HBW := Aside0.mk hHeld.2.2.2.size
  refine hK.out _ _ ⟨cell_below_ hb hHeld.1, cell_below_ hb hHeld.2.1, blk_below hHeld.2.2.1 hb, below_step hHeld.2.2.2 hb⟩ (fun hNow => ?_)
  clear hK K hHeld
  have hHeld := hNow
  clear hNow
  refine norm_ (a' := ?_) ?_ ?_
  rotate_left
  · show Act.put _ (some 7) _ = _
    simp only [Act.put, List.setIfInBounds_toArray, List.set_cons_zero, List.set_cons_succ, i64_w, i32_w]
    rfl
  refine pure_ (i := 5) (N := some 8) (v := ?_) (a' := ?_) #[true, true, true, true, true, true, false] rfl rfl (by kernel_rfl) (fun _ _ _ h => h) (Or.inl ⟨by rfl, ?_⟩) ?_ ?_
  rotate_left
  · intro w'
    go_simp
    with_reducible rfl
  rotate_left
  · simp only [Act.put, List.setIfInBounds_toArray, List.set_cons_zero, List.set_cons_succ, i64_w, i32_w]
    rfl
  refine last_ (i := 6) (N := none) #[true, true, true, true, true, true, true] rfl rfl (by kernel_rfl) (by decide) (fun K hK => ?_)
  have HS3 := Aside0.mk hHeld
  have z0 : w3.cell? ⟨w.heap.size + 1, 0, none⟩ = some (.int .u64 0) := by rw [blk_cell hHeld.2.2.1]; rfl
  have z1 : w3.cell? ⟨w.heap.size + 1, 1, none⟩ = some (.slice none 0 0) := by rw [blk_cell hHeld.2.2.1]; rfl
  have y0 := blk_frozen hHeld.2.2.1 0
  have y1 := blk_frozen hHeld.2.2.1 1
  refine skip_ (w1 := ?_) (by rfl) rfl ?_ ?_
  rotate_left
  · go_simp
    rfl
  refine hK.out _ _ ?_
  clear hK K
  refine done_ (by kernel_rfl) ?_
  clear hHeld z0 z1 y0 y1
  go_wp2_with fail
  have hq := put2_blk HS3.out.2.2.1 (.int .u64 sq) (.slice A6 l.length c6)
  have p0 := (blk_cell hq 0).trans rfl
  have p1 := (blk_cell hq 1).trans rfl
  unfold put2 at p0 p1
  clear hq
  refine bodyPost_ret (v := .agg #[.int .u64 sq, .slice A6 l.length c6]) (by simp [results, Tryz.results23, go_sem, p0, p1]) rfl ?_
  refine ⟨_, rfl, ?_, put2_below HS3.out.2.2.2 (by omega) (.int .u64 sq) (.slice A6 l.length c6)⟩
  have hk := Kd.R_keep HRR.out (put2_keep w3 (w.heap.size + 1) (.int .u64 sq) (.slice A6 l.length c6)) (fun k hk => by have := HLT.out; omega)
  exact Kd.R_lower (Kd.R_mono hk (fun k hk => Nat.le_trans HBW.out hk)) HBW.out
theorem up_one.calls (x : S100) (w : World) : Calls Tryz.prog 94 #[.agg #[.string x.f0, .string x.f1, .string x.f2, .int .u8 x.f3]] w (OneP k118 w (up1 x)) := by
  go_enter Tryz.func94, Tryz.ntmps94
  go_wp2_with fail
  refine bodyPost_ret (v := .agg #[.string x.f0, .string x.f1, .string ⟨#[100, 101, 102, 97, 117, 108, 116]⟩, .int .u8 x.f3, .int .u16 30, .slice (some ⟨w.heap.size + 1 + 1, 0, none⟩) 1 1]) (by simp [results, Tryz.results94, go_sem]) rfl ?_
  have hG := blk_new ((w.alloc (.cells #[.string x.f0, .string x.f1, .string x.f2, .int .u8 x.f3] 100)).alloc (.cells #[.string x.f0, .string x.f1, .string ⟨#[100, 101, 102, 97, 117, 108, 116]⟩, .int .u8 x.f3, .int .u16 30, .slice (some ⟨w.heap.size + 1 + 1, 0, none⟩) 1 1] 118)) (.cells #[.string ⟨#[109, 97, 105, 110]⟩, .string x.f2] 120)
  rw [World_size_alloc2, World_size_alloc2] at hG
  exact ⟨[.string x.f0, .string x.f1, .string ⟨#[100, 101, 102, 97, 117, 108, 116]⟩, .int .u8 x.f3, .int .u16 30, .slice (some ⟨w.heap.size + 1 + 1, 0, none⟩) 1 1], rfl, k118_mkM _ _ _ (up1 x) (R_one (okp := fun _ => False) (cs := [.string ⟨#[109, 97, 105, 110]⟩, .string x.f2]) hG (k120_mkM _ _ _ ⟨⟨#[109, 97, 105, 110]⟩, x.f2⟩) (by omega) (by omega) (fun _ h => h.elim)), by repeat (first | exact Below.refl _ _ | apply below_alloc)⟩
theorem k118_M_open {w : World} {base : Nat} {ok : Nat → Prop} {x : S118} {cs : List Value} (h : k118.M w base ok x cs) : ∃ A c, cs = [.string x.f0, .string x.f1, .string x.f2, .int .u8 x.f3, .int .u16 x.f4, .slice A x.f5.length c] := by
  obtain ⟨v5, rfl, hr⟩ := k118_openM h
  obtain ⟨A, c, rfl⟩ := R_slice hr
  exact ⟨A, c, rfl⟩
theorem each93.calls (A1 : Option Addr) (c1 : Nat) (l : List S100) (w : World) (h1 : k100.C w A1 l.length l) (hl : l.length ≤ 1000000) :
    Calls Tryz.prog 93 #[.slice A1 l.length c1, .func (.func 94) #[] #[]] w (EachP k118 118 w (l.map up1)) := by
  have H1 := Aside0.mk h1
  clear h1
  go_enter Tryz.func93, Tryz.ntmps93
  go_wp2_with fail
  go_loopw [5, 10] (fun v5 v10 wr => ∃ (j : Nat) (acc : List S118), v10 = .int .i64 (j : Int) ∧ j ≤ l.length ∧ Aside0 (acc = (l.take j).map up1) ∧ Aside0 (k118.R 118 wr w.heap.size (fun k => w.heap.size ≤ k) v5 acc) ∧ Aside0 (Below w.heap.size w wr)) (fun _ v10 _ => l.length - (intOf v10).toNat)
  case atStart => exact ⟨0, [], rfl, Nat.zero_le _, ⟨by simp⟩, ⟨Kd.R_nil k118 118 w w.heap.size (fun k => w.heap.size ≤ k)⟩, ⟨Below.refl _ _⟩⟩
  case round =>
    obtain ⟨j, acc, rfl, hj, HAC, HR, HB⟩ := hrel
    obtain ⟨A0, c0, hv⟩ := R_slice HR.out
    by_cases hlt : j < l.length
    · have hlt2 : (j : Int) < (l.length : Int) := by omega
      have hj0 : (0 : Int) ≤ (j : Int) := by omega
      obtain ⟨ad, ea, q0, q1, q2, q3⟩ := at_T100 H1.out (j : Int) hj0 hlt2
      subst ea
      rw [Int.toNat_natCast] at q0 q1 q2 q3
      replace q0 := cell_below_ HB.out q0
      replace q1 := cell_below_ HB.out q1
      replace q2 := cell_below_ HB.out q2
      replace q3 := cell_below_ HB.out q3
      have hrd : rd_T100 l (j : Int) = l[j] := by simp [rd_T100, List.getD, List.getElem?_eq_getElem hlt]
      have HE := Aside0.mk (show (l.take (j + 1)).map up1 = acc ++ [up1 (rd_T100 l (j : Int))] from by rw [HAC.out, hrd, List.take_succ_eq_append_getElem hlt, List.map_append]; rfl)
      have HLE := Aside0.mk (show acc.length = j from by rw [HAC.out]; simp; omega)
      clear hrd
      generalize rd_T100 l (j : Int) = x at q0 q1 q2 q3 HE
      subst hv
      have cOne := up_one.calls x (wr.alloc (.cells #[.string x.f0, .string x.f1, .string x.f2, .int .u8 x.f3] 100))
      have HBA := Aside0.mk (below_alloc HB.out (.cells #[.string x.f0, .string x.f1, .string x.f2, .int .u8 x.f3] 100))
      have HSZ := Aside0.mk (show wr.heap.size ≤ (wr.alloc (.cells #[.string x.f0, .string x.f1, .string x.f2, .int .u8 x.f3] 100)).heap.size from by simp)
      go_wp2_with (first | (go_at_call 94; refine cOne.mono ?_; rintro e w3 ⟨cs, rfl, hM, hb⟩; obtain ⟨A2, c2, rfl⟩ := k118_M_open hM; have HM := Aside0.mk hM; have HB3 := Aside0.mk (below_step HBA.out hb); have HR3 := Aside0.mk (Kd.R_below (Kd.R_below HR.out (below_alloc (Below.refl _ _) (.cells #[.string x.f0, .string x.f1, .string x.f2, .int .u8 x.f3] 100))) hb); have HS3 := Aside0.mk hb.size; clear hM hb cOne q0 q1 q2 q3) | (at_builtin; refine Kd.R_append k118 (w0 := w) w.heap.size rfl (.tmp 14) (.tmp 18) 57 118 (.agg #[.string ⟨#[]⟩, .string ⟨#[]⟩, .string ⟨#[]⟩, .int .u8 0, .int .u16 0, .slice none 0 0]) 80 (by rfl) Tryz.underlying57 info118 rfl (by decide) (by decide) (.slice A0 acc.length c0) acc (up1 x) [.string (up1 x).f0, .string (up1 x).f1, .string (up1 x).f2, .int .u8 (up1 x).f3, .int .u16 (up1 x).f4, .slice A2 (up1 x).f5.length c2] (fun k => w.heap.size ≤ k) (fun k => (wr.alloc (.cells #[.string x.f0, .string x.f1, .string x.f2, .int .u8 x.f3] 100)).heap.size ≤ k) rfl rfl (k118.M_lower HBA.out.size HM.out) (fun k hk => ⟨Nat.le_trans HBA.out.size hk, own_block_lt HR.out k (Nat.le_trans HSZ.out hk)⟩) (fun k hk => Nat.le_trans HB3.out.size hk) HR3.out HB3.out HB3.out.size (by rw [HLE.out]; omega) ?_; intro v1 w5 hr5 hb5 hg5 hat5; have HR5 := Aside0.mk hr5; have HB5 := Aside0.mk hb5; clear hr5 hb5 hg5 hat5))
      have hw1 : wrap64 ((j : Int) + 1) = ((j + 1 : Nat) : Int) := by unfold wrap64; omega
      go_roundw
      case rel => exact ⟨j + 1, _, by simp [hw1], hlt, ⟨HE.out.symm⟩, HR5, HB5⟩
      case measure => simp [intOf, hw1]; omega
    · have hlt7 : ¬ (j : Int) < (l.length : Int) := by omega
      have HZ := Aside0.mk (show l.take j = l from List.take_of_length_le (by omega))
      have HAE := Aside0.mk (show acc = l.map up1 from by rw [HAC.out, HZ.out])
      subst hv
      go_wp2_with fail
      go_ret
      exact ⟨_, rfl, by rw [← HAE.out]; exact HR.out, HB.out⟩
theorem upgrade_Two.calls (sq : Int) (A1 : Option Addr) (c1 : Nat) (l : List S100) (w : World) (h1 : k100.C w A1 l.length l) (hl : l.length ≤ 1000000) (hsq : 0 ≤ sq ∧ sq ≤ 4294967295) :
    Calls Tryz.prog 49 #[.agg #[.int .u32 sq, .slice A1 l.length c1]] w fun e w' => ∃ v, e = .returned (.agg #[.int .u64 sq, v]) ∧ k118.R 118 w' w.heap.size (fun k => w.heap.size ≤ k) v (l.map up1) ∧ Below w.heap.size w w' := by
  have hX := blk_alloc (blk_new w (.cells #[.int .u32 sq, .slice A1 l.length c1] 52)) (.cells #[.int .u64 0, .slice none 0 0] 59)
  have hR := blk_new (w.alloc (.cells #[.int .u32 sq, .slice A1 l.length c1] 52)) (.cells #[.int .u64 0, .slice none 0 0] 59)
  have hB := below_alloc (below_alloc (Below.refl w.heap.size w) (.cells #[.int .u32 sq, .slice A1 l.length c1] 52)) (.cells #[.int .u64 0, .slice none 0 0] 59)
  rw [World_size_alloc2] at hR
  have e0 : ((w.alloc (.cells #[.int .u32 sq, .slice A1 l.length c1] 52)).alloc (.cells #[.int .u64 0, .slice none 0 0] 59)).cell? ⟨w.heap.size, 0, none⟩ = some (.int .u32 sq) := by rw [blk_cell hX]; rfl
  have e1 : ((w.alloc (.cells #[.int .u32 sq, .slice A1 l.length c1] 52)).alloc (.cells #[.int .u64 0, .slice none 0 0] 59)).cell? ⟨w.heap.size, 1, none⟩ = some (.slice A1 l.length c1) := by rw [blk_cell hX]; rfl
  have HR := Aside0.mk hR
  have HB := Aside0.mk hB
  have HC := Aside0.mk h1
  have HE := Aside0.mk (And.intro e0 e1)
  have q1 : IntKind.u64.wrap sq = sq := IntWalk.u64_in _ (by omega)
  clear hsq
  clear hX hR hB e0 e1 h1
  go_enter Tryz.func49, Tryz.ntmps49
  go_wp2_with fail
  refine start_ (n := 8) (S := fun w' => w'.cell? ⟨w.heap.size, 0, none⟩ = some (.int .u32 sq) ∧ w'.cell? ⟨w.heap.size, 1, none⟩ = some (.slice A1 l.length c1) ∧ w'.heap[w.heap.size + 1]? = some (.cells #[.int .u64 0, .slice none 0 0] 59 (0, 0)) ∧ Below w.heap.size w w') (ds := [7]) #[false, false, false, false, false, false, false, false] (by kernel_rfl) rfl rfl ⟨(show ((w.alloc (.cells #[.int .u32 sq, .slice A1 l.length c1] 52)).alloc (.cells #[.int .u64 0, .slice none 0 0] 59)).drew.cell? ⟨w.heap.size, 0, none⟩ = _ from HE.out.1), (show ((w.alloc (.cells #[.int .u32 sq, .slice A1 l.length c1] 52)).alloc (.cells #[.int .u64 0, .slice none 0 0] 59)).drew.cell? ⟨w.heap.size, 1, none⟩ = _ from HE.out.2), (show ((w.alloc (.cells #[.int .u32 sq, .slice A1 l.length c1] 52)).alloc (.cells #[.int .u64 0, .slice none 0 0] 59)).drew.heap[w.heap.size + 1]? = _ from HR.out), (below_drew1 HB.out)⟩ (fun hHeld => ?_)
  refine pure_ (i := 0) (N := some 3) (v := ?_) (a' := ?_) #[true, false, false, false, false, false, false, false] rfl rfl (by kernel_rfl) (fun _ _ _ h => h) (Or.inl ⟨by rfl, ?_⟩) ?_ ?_
  rotate_left
  · intro w'
    go_simp
    with_reducible rfl
  rotate_left
  · simp only [Act.put, List.setIfInBounds_toArray, List.set_cons_zero, List.set_cons_succ, i64_w, i32_w]
    rfl
  refine pure_ (i := 3) (N := some 6) (v := ?_) (a' := ?_) #[true, false, false, true, false, false, false, false] rfl rfl (by kernel_rfl) (fun _ _ _ h => h) (Or.inl ⟨by rfl, ?_⟩) ?_ ?_
  rotate_left
  · intro w'
    go_simp
    with_reducible rfl
  rotate_left
  · simp only [Act.put, List.setIfInBounds_toArray, List.set_cons_zero, List.set_cons_succ, i64_w, i32_w]
    rfl
  refine take_ (i := 1) (N := some 4) (v := ?_) (a' := ?_) #[true, true, false, true, false, false, false, false] rfl rfl (by kernel_rfl) (fun _ _ _ h => h) (Or.inl ⟨by rfl, ?_⟩) hHeld ?_ ?_
  rotate_left
  · rintro w' ⟨s0, s1, s2, s3⟩
    go_simp
    with_reducible rfl
  rotate_left
  · simp only [Act.put, List.setIfInBounds_toArray, List.set_cons_zero, List.set_cons_succ, i64_w, i32_w]
    rfl
  refine pure_ (i := 2) (N := some 5) (v := ?_) (a' := ?_) #[true, true, true, true, false, false, false, false] rfl rfl (by kernel_rfl) (fun _ _ _ h => h) (Or.inl ⟨by rfl, ?_⟩) ?_ ?_
  rotate_left
  · intro w'
    go_simp
    with_reducible rfl
  rotate_left
  · simp only [Act.put, List.setIfInBounds_toArray, List.set_cons_zero, List.set_cons_succ, i64_w, i32_w]
    rfl
  refine take_ (i := 4) (N := some 7) (v := ?_) (a' := ?_) #[true, true, true, true, true, false, false, false] rfl rfl (by kernel_rfl) (fun _ _ _ h => h) (Or.inl ⟨by rfl, ?_⟩) hHeld ?_ ?_
  rotate_left
  · rintro w' ⟨s0, s1, s2, s3⟩
    go_simp
    with_reducible rfl
  rotate_left
  · simp only [Act.put, List.setIfInBounds_toArray, List.set_cons_zero, List.set_cons_succ, i64_w, i32_w]
    rfl
  refine one_ (i := 5) (N := some 8) #[true, true, true, true, true, true, false, false] rfl rfl (by kernel_rfl) (by decide) (fun K hK => ?_)
  refine goes_ Tryz.func93 (by kernel_rfl) rfl #[.slice A1 l.length c1, .func (.func 94) #[] #[]] (by rfl) rfl rfl (by simp only [List.map_toArray, List.map_cons, List.map_nil]; rfl) ?_
  with_reducible refine (each93.calls A1 c1 l _ (Kd.C_below HC.out hHeld.2.2.2) hl).mono ?_
  rintro e w3 ⟨v, rfl, hr, hb⟩
  refine ⟨_, rfl, ?_⟩
  obtain ⟨A6, c6, rfl⟩ := R_slice hr
  rw [List.length_map] at hr
  have HRR := Aside0.mk hr
  have HLT := Aside0.mk (blk_lt hHeld.2.2.1)
  have HBW := Aside0.mk hHeld.2.2.2.size
  refine hK.out _ _ ⟨cell_below_ hb hHeld.1, cell_below_ hb hHeld.2.1, blk_below hHeld.2.2.1 hb, below_step hHeld.2.2.2 hb⟩ (fun hNow => ?_)
  clear hK K hHeld
  have hHeld := hNow
  clear hNow
  refine norm_ (a' := ?_) ?_ ?_
  rotate_left
  · show Act.put _ (some 8) _ = _
    simp only [Act.put, List.setIfInBounds_toArray, List.set_cons_zero, List.set_cons_succ, i64_w, i32_w]
    rfl
  refine pure_ (i := 6) (N := some 9) (v := ?_) (a' := ?_) #[true, true, true, true, true, true, true, false] rfl rfl (by kernel_rfl) (fun _ _ _ h => h) (Or.inl ⟨by rfl, ?_⟩) ?_ ?_
  rotate_left
  · intro w'
    go_simp
    with_reducible rfl
  rotate_left
  · simp only [Act.put, List.setIfInBounds_toArray, List.set_cons_zero, List.set_cons_succ, i64_w, i32_w]
    rfl
  refine last_ (i := 7) (N := none) #[true, true, true, true, true, true, true, true] rfl rfl (by kernel_rfl) (by decide) (fun K hK => ?_)
  have HS3 := Aside0.mk hHeld
  have z0 : w3.cell? ⟨w.heap.size + 1, 0, none⟩ = some (.int .u64 0) := by rw [blk_cell hHeld.2.2.1]; rfl
  have z1 : w3.cell? ⟨w.heap.size + 1, 1, none⟩ = some (.slice none 0 0) := by rw [blk_cell hHeld.2.2.1]; rfl
  have y0 := blk_frozen hHeld.2.2.1 0
  have y1 := blk_frozen hHeld.2.2.1 1
  refine skip_ (w1 := ?_) (by rfl) rfl ?_ ?_
  rotate_left
  · go_simp
    rfl
  refine hK.out _ _ ?_
  clear hK K
  refine done_ (by kernel_rfl) ?_
  clear hHeld z0 z1 y0 y1
  go_wp2_with fail
  have hq := put2_blk HS3.out.2.2.1 (.int .u64 sq) (.slice A6 l.length c6)
  have p0 := (blk_cell hq 0).trans rfl
  have p1 := (blk_cell hq 1).trans rfl
  unfold put2 at p0 p1
  clear hq
  refine bodyPost_ret (v := .agg #[.int .u64 sq, .slice A6 l.length c6]) (by simp [results, Tryz.results49, go_sem, p0, p1]) rfl ?_
  refine ⟨_, rfl, ?_, put2_below HS3.out.2.2.2 (by omega) (.int .u64 sq) (.slice A6 l.length c6)⟩
  have hk := Kd.R_keep HRR.out (put2_keep w3 (w.heap.size + 1) (.int .u64 sq) (.slice A6 l.length c6)) (fun k hk => by have := HLT.out; omega)
  exact Kd.R_lower (Kd.R_mono hk (fun k hk => Nat.le_trans HBW.out hk)) HBW.out
theorem upgrade_Both.calls (sq : Int) (A1 : Option Addr) (c1 : Nat) (l : List S100) (w : World) (h1 : k100.C w A1 l.length l) (hl : l.length ≤ 1000000) (hsq : 0 ≤ sq ∧ sq ≤ 4294967295) (hx : ∀ x ∈ l, 0 ≤ x.f3 ∧ x.f3 ≤ 255) :
    Calls Tryz.prog 20 #[.agg #[.int .u32 sq, .slice A1 l.length c1]] w fun e w' => ∃ v, e = .returned (.agg #[.int .u64 sq, v]) ∧ k94.R 94 w' w.heap.size (fun k => w.heap.size ≤ k) v ((l.map up1).map upP) ∧ Below w.heap.size w w' := by
  have hR := blk_new (w.alloc (.cells #[.int .u32 sq, .slice A1 l.length c1] 52)) (.cells #[.int .u64 0, .slice none 0 0] 28)
  have hB := below_alloc (below_alloc (Below.refl w.heap.size w) (.cells #[.int .u32 sq, .slice A1 l.length c1] 52)) (.cells #[.int .u64 0, .slice none 0 0] 28)
  rw [World_size_alloc2] at hR
  have cTwo := upgrade_Two.calls sq A1 c1 l _ (Kd.C_below h1 hB) hl hsq
  have HR := Aside0.mk hR
  have HB := Aside0.mk hB
  have HOK := Aside0.mk (show ∀ x ∈ l.map up1, okX x from fun x hx2 => by
    obtain ⟨y, hy, rfl⟩ := List.mem_map.1 hx2
    have := hx y hy
    exact ⟨this.1, this.2, by simp [up1], by simp [up1], by simp [up1]⟩)
  have hl2 : (l.map up1).length ≤ 1000000 := by simpa using hl
  obtain ⟨m, hm⟩ : ∃ m, m = l.map up1 := ⟨_, rfl⟩
  rw [← hm] at cTwo HOK hl2 ⊢
  clear hR hB h1 hl hsq hx hm
  go_enter Tryz.func20, Tryz.ntmps20
  go_wp2_with (first | (go_at_call 49; refine cTwo.mono ?_; rintro e w3 ⟨v, rfl, hr, hb⟩; obtain ⟨A6, c6, rfl⟩ := R_slice hr; have HB3 := Aside0.mk (below_step HB.out hb); have HR3 := Aside0.mk (blk_below HR.out hb); have HC3 := Aside0.mk (Kd.R_reads' hr).2.2; clear hr hb cTwo HB HR) | (go_at_call 23; refine (upgrade_Three.calls sq A6 c6 m _ HC3.out hl2 HOK.out).mono ?_; rintro e w4 ⟨v, rfl, hr, hb⟩; obtain ⟨A7, c7, rfl⟩ := R_slice hr; rw [List.length_map] at hr; have HB4 := Aside0.mk (below_step HB3.out hb); have HR4 := Aside0.mk (blk_below HR3.out hb); have HRR := Aside0.mk hr; have HBW := Aside0.mk HB3.out.size; have HLT := Aside0.mk (blk_lt HR3.out); clear hr hb HB3 HC3; have z0 : w4.cell? ⟨w.heap.size + 1, 0, none⟩ = some (.int .u64 0) := (by rw [blk_cell HR4.out]; rfl); have z1 : w4.cell? ⟨w.heap.size + 1, 1, none⟩ = some (.slice none 0 0) := (by rw [blk_cell HR4.out]; rfl); have y0 := blk_frozen HR4.out 0; have y1 := blk_frozen HR4.out 1))
  clear z0 z1 y0 y1
  have hq := put2_blk HR4.out (.int .u64 sq) (.slice A7 m.length c7)
  have p0 := (blk_cell hq 0).trans rfl
  have p1 := (blk_cell hq 1).trans rfl
  unfold put2 at p0 p1
  clear hq
  refine bodyPost_ret (v := .agg #[.int .u64 sq, .slice A7 m.length c7]) (by simp [results, Tryz.results20, go_sem, p0, p1]) rfl ?_
  refine ⟨_, rfl, ?_, put2_below HB4.out (by omega) (.int .u64 sq) (.slice A7 m.length c7)⟩
  have hk := Kd.R_keep HRR.out (put2_keep w4 (w.heap.size + 1) (.int .u64 sq) (.slice A7 m.length c7)) (fun k hk => by have := HLT.out; omega)
  exact Kd.R_lower (Kd.R_mono hk (fun k hk => Nat.le_trans HBW.out hk)) HBW.out
end Go.Proofs.YtlmeelmjodjfpaaGreatDoor.PB
