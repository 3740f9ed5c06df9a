/- CkptBursts, part 11 of 24 of its proof: for every input that meets the row's condition (laid, tied) the call returns true and each argument reads behind it as before. -/
import Derived.Test.YtlmeelmjodjfpaaGreatDoorG06
import Derived.Test.YtlmeelmjodjfpaaGreatDoorG08
import Derived.Test.YtlmeelmjodjfpaaGreatDoorG09
namespace Go.Proofs.YtlmeelmjodjfpaaGreatDoor.PB
open Go.RowKit Go.Maps Go.Proofs.YtlmeelmjodjfpaaGreatDoorW.PrintWords Go.Proofs.YtlmeelmjodjfpaaGreatDoorW.PrintLast Go.Proofs.YtlmeelmjodjfpaaGreatDoorW.PrintMore
set_option linter.unusedVariables false
set_option linter.unusedSimpArgs false
def cmdP : List ByteArray → Int
  | [] => 0
  | s :: r => if textP s = 0 then cmdP r else textP s
/-- Is a port's number, or its protocol, out of bounds? -/
def portBad (p : S160) : Bool := !(decide (1 ≤ p.f0) && decide (p.f0 ≤ 65535)) || (p.f1 != 0 && p.f1 != 1)
def portE (seen : List S160) (p : S160) : Int := if portBad p then 7 else if 0 < cntOf seen p then 8 else 0
def portsP : List S160 → List S160 → Int
  | _, [] => 0
  | seen, p :: r => if portE seen p = 0 then portsP (seen ++ [p]) r else portE seen p
def envE (seen : List ByteArray) (v : S161) : Int := if varP v.f0 then (if 0 < cntOf seen v.f0 then 8 else textP v.f1) else 13
def envP : List ByteArray → List S161 → Int
  | _, [] => 0
  | seen, v :: r => if envE seen v = 0 then envP (seen ++ [v.f0]) r else envE seen v
def orP (a b : Int) : Int := if a = 0 then b else a
def partsP (l2 : List ByteArray) (l3 : List S160) (l6 : List S161) : Int := orP (cmdP l2) (orP (portsP [] l3) (envP [] l6))
theorem grownBy_self_drew (w : World) (row : Option Nat := none) : w.grownBy w.drew row := ⟨rfl, rfl, rfl, Nat.le_refl _, fun _ _ _ => rfl⟩
/-- The box that holds the container: its ports' and its variables' slices. -/
structure Box104 (N : Nat) (A3 : Option Addr) (n3 c3 : Nat) (A6 : Option Addr) (n6 c6 : Nat) (w : World) : Prop where
  c3 : w.cell? ⟨N, 3, none⟩ = some (.slice A3 n3 c3)
  c6 : w.cell? ⟨N, 6, none⟩ = some (.slice A6 n6 c6)
  lt : N < w.heap.size
theorem Box104.later {N : Nat} {A3 A6 : Option Addr} {n3 c3 n6 c6 : Nat} {w w' : World} (h : Box104 N A3 n3 c3 A6 n6 c6 w) (hb : Below w.heap.size w w') : Box104 N A3 n3 c3 A6 n6 c6 w' :=
  ⟨(hb.cell (p := ⟨N, 3, none⟩) h.lt).trans h.c3, (hb.cell (p := ⟨N, 6, none⟩) h.lt).trans h.c6, Nat.lt_of_lt_of_le h.lt hb.size⟩
theorem Box104.kept {N : Nat} {A3 A6 : Option Addr} {n3 c3 n6 c6 : Nat} {w w' : World} {row : Option Nat} (h : Box104 N A3 n3 c3 A6 n6 c6 w) (hg : w.grownBy w' row) (hne : some N ≠ row) : Box104 N A3 n3 c3 A6 n6 c6 w' :=
  ⟨hg.cell h.c3 hne, hg.cell h.c6 hne, Nat.lt_of_lt_of_le h.lt hg.size⟩
theorem first2 (a b : Int) (k : Nat) (hk : 5 ≤ k) : spec_first.f k [a, b] = some (if a = 0 then b else a) := by
  obtain ⟨k, rfl⟩ : ∃ m, k = m + 5 := ⟨k - 5, by omega⟩
  by_cases h : a = 0 <;> by_cases h2 : b = 0 <;> simp [spec_first.f, spec_first.l0, rd, wrap64, h, h2]
theorem first3 (a b c : Int) (k : Nat) (hk : 6 ≤ k) : spec_first.f k [a, b, c] = some (if a = 0 then (if b = 0 then c else b) else a) := by
  obtain ⟨k, rfl⟩ : ∃ m, k = m + 6 := ⟨k - 6, by omega⟩
  by_cases h : a = 0 <;> by_cases h2 : b = 0 <;> by_cases h3 : c = 0 <;> simp [spec_first.f, spec_first.l0, rd, wrap64, h, h2, h3]
theorem cFrom (a b : Int) (w : World) : Calls Tryz.prog 122 #[.int .i64 a, .int .i64 b] w fun e w' => e = .returned (.bool (decide (1 ≤ a) && decide (a ≤ b))) ∧ Drawn0 w w' :=
  spec_from.calls a b _ w (by unfold spec_from.f; by_cases h : a ≥ 1 <;> simp [h])
theorem cWhen (a : Bool) (b : Int) (w : World) : Calls Tryz.prog 121 #[.bool a, .int .i64 b] w fun e w' => e = .returned (.int .i64 (if a then b else 0)) ∧ Drawn0 w w' :=
  spec_when.calls a b _ w (by unfold spec_when.f; cases a <;> rfl)
theorem grownBy_undrew {w w' : World} {row : Option Nat} (h : w.drew.grownBy w' row) : w.grownBy w' row := ⟨h.os, h.tape, h.output, h.size, h.block⟩
/-- Some numbers in a block of their own. -/
theorem ints_new (W : World) (xs : List Int) (t : TypeId) (hn : xs.length ≤ 9223372036854775807) : Kd.C (Kd.int .i64) (W.alloc (.cells (xs.map (Value.int .i64)).toArray t)) (some ⟨W.heap.size, 0, none⟩) xs.length xs := by
  refine Kd.C_of_reads (enc := Value.int .i64) (d := 0) ⟨rfl, hn, fun _ => ⟨_, rfl, fun j hj => ?_⟩⟩
  have e : (⟨W.heap.size, 0, none⟩ : Addr).add j = ⟨W.heap.size, j, none⟩ := by by_cases h0 : j = 0 <;> simp [Addr.add, h0]
  rw [e]
  refine (newCell W (xs.map (Value.int .i64)).toArray t j _ ?_).1
  simp [hj, List.getD]
theorem cFirst (W : World) (xs : List Int) (r : Int) (t : TypeId) (n : Nat) (k : Nat) (hl : xs.length = n) (hn : n ≤ 100) (hr : spec_first.f k xs = some r) :
    Calls Tryz.prog 120 #[.slice (some ⟨W.heap.size, 0, none⟩) n n] (W.alloc (.cells (xs.map (Value.int .i64)).toArray t)) fun e w' => e = .returned (.int .i64 r) ∧ Drawn0 (W.alloc (.cells (xs.map (Value.int .i64)).toArray t)) w' := by
  subst hl
  exact spec_first.calls k _ _ xs r _ (ints_new W xs t (by omega)) (Nat.le_refl _) hr
theorem cFirst2 (W : World) (a b r : Int) (t : TypeId) (hr : spec_first.f 5 [a, b] = some r) : Calls Tryz.prog 120 #[.slice (some ⟨W.heap.size, 0, none⟩) 2 2] (W.alloc (.cells #[.int .i64 a, .int .i64 b] t)) fun e w' => e = .returned (.int .i64 r) ∧ Drawn0 (W.alloc (.cells #[.int .i64 a, .int .i64 b] t)) w' := cFirst W [a, b] r t 2 5 rfl (by omega) hr
theorem cFirst3 (W : World) (a b c r : Int) (t : TypeId) (hr : spec_first.f 6 [a, b, c] = some r) : Calls Tryz.prog 120 #[.slice (some ⟨W.heap.size, 0, none⟩) 3 3] (W.alloc (.cells #[.int .i64 a, .int .i64 b, .int .i64 c] t)) fun e w' => e = .returned (.int .i64 r) ∧ Drawn0 (W.alloc (.cells #[.int .i64 a, .int .i64 b, .int .i64 c] t)) w' := cFirst W [a, b, c] r t 3 6 rfl (by omega) hr
/-- What a round over the ports keeps. -/
theorem PS_later {w : World} {pb mb n : Nat} {p : S160} {ks : List S160} {c : Int} {A3 A6 : Option Addr} {n3 c3 n6 c6 : Nat} (hok : okP p) (hc : ((cntOf ks p : Nat) : Int) = c) {W W' : World}
    (h : W.cell? ⟨pb, 0, none⟩ = some (.int .i64 p.f0) ∧ W.cell? ⟨pb, 1, none⟩ = some (.int .i64 p.f1) ∧ (Instr.lookup 218 (.map (some mb)) (.agg #[.int .i64 p.f0, .int .i64 p.f1]) false).run Tryz.prog W = .ok (.int .i64 c) W ∧ Cnt 160 klP okP mb n ks W ∧ pb < W.heap.size ∧ Box104 w.heap.size A3 n3 c3 A6 n6 c6 W ∧ Below w.heap.size w W)
    (hb : Below W.heap.size W W') :
    W'.cell? ⟨pb, 0, none⟩ = some (.int .i64 p.f0) ∧ W'.cell? ⟨pb, 1, none⟩ = some (.int .i64 p.f1) ∧ (Instr.lookup 218 (.map (some mb)) (.agg #[.int .i64 p.f0, .int .i64 p.f1]) false).run Tryz.prog W' = .ok (.int .i64 c) W' ∧ Cnt 160 klP okP mb n ks W' ∧ pb < W'.heap.size ∧ Box104 w.heap.size A3 n3 c3 A6 n6 c6 W' ∧ Below w.heap.size w W' := by
  obtain ⟨h0, h1, h2, h3, h4, h5, h6⟩ := h
  have h7 := h3.later hb
  refine ⟨(hb.cell (p := ⟨pb, 0, none⟩) h4).trans h0, (hb.cell (p := ⟨pb, 1, none⟩) h4).trans h1, ?_, h7, Nat.lt_of_lt_of_le h4 hb.size, h5.later hb, below_step h6 hb⟩
  have := h7.look lawP hok
  rw [hc] at this
  exact this
/-- What a round over the variables keeps. -/
theorem PE_later {w : World} {pb mb n : Nat} {s u : ByteArray} {ks : List ByteArray} {c : Int} (hok : okS s) (hc : ((cntOf ks s : Nat) : Int) = c) {W W' : World}
    (h : W.cell? ⟨pb, 0, none⟩ = some (.string s) ∧ W.cell? ⟨pb, 1, none⟩ = some (.string u) ∧ (Instr.lookup 198 (.map (some mb)) (.string s) false).run Tryz.prog W = .ok (.int .i64 c) W ∧ Cnt 9 klS okS mb n ks W ∧ pb < W.heap.size ∧ Tabs W ∧ Below w.heap.size w W)
    (hb : Below W.heap.size W W') :
    W'.cell? ⟨pb, 0, none⟩ = some (.string s) ∧ W'.cell? ⟨pb, 1, none⟩ = some (.string u) ∧ (Instr.lookup 198 (.map (some mb)) (.string s) false).run Tryz.prog W' = .ok (.int .i64 c) W' ∧ Cnt 9 klS okS mb n ks W' ∧ pb < W'.heap.size ∧ Tabs W' ∧ Below w.heap.size w W' := by
  obtain ⟨h0, h1, h2, h3, h4, h5, h6⟩ := h
  have h7 := h3.later hb
  refine ⟨(hb.cell (p := ⟨pb, 0, none⟩) h4).trans h0, (hb.cell (p := ⟨pb, 1, none⟩) h4).trans h1, ?_, h7, Nat.lt_of_lt_of_le h4 hb.size, h5.below hb, below_step h6 hb⟩
  have := h7.look lawS hok
  rw [hc] at this
  exact this
set_option maxRecDepth 100000
set_option maxHeartbeats 1000000
theorem spec_parts.calls (n m : ByteArray) (A2 A3 A6 : Option Addr) (c2 c3 c6 : Nat) (cpu mem : Int) (l2 : List ByteArray) (l3 : List S160) (l6 : List S161) (w : World) (hT : Tabs w)
    (h2 : Kd.string.C w A2 l2.length l2) (h3 : k160.C w A3 l3.length l3) (h6 : k161.C w A6 l6.length l6) (hc2 : l2.length ≤ c2) (hc3 : l3.length ≤ c3) (hc6 : l6.length ≤ c6)
    (s2 : ∀ s ∈ l2, s.size ≤ 140737488355328) (s3 : ∀ p ∈ l3, okP p) (s6 : ∀ v ∈ l6, v.f0.size ≤ 140737488355328 ∧ v.f1.size ≤ 140737488355328) (hl2 : l2.length ≤ 140737488355328) (hl3 : l3.length ≤ 140737488355328) (hl6 : l6.length ≤ 140737488355328) :
    Calls Tryz.prog 124 #[.agg #[.string n, .string m, .slice A2 l2.length c2, .slice A3 l3.length c3, .int .i64 cpu, .int .i64 mem, .slice A6 l6.length c6]] w fun e w' => e = .returned (.int .i64 (partsP l2 l3 l6)) ∧ Below w.heap.size w w' := by
  have H2 := Aside0.mk h2
  have H3 := Aside0.mk h3
  have H6 := Aside0.mk h6
  have HT := Aside0.mk hT
  have S2 := Aside0.mk s2
  have S3 := Aside0.mk s3
  have S6 := Aside0.mk s6
  clear h2 h3 h6 hT s2 s3 s6
  go_enter Tryz.func124, Tryz.ntmps124
  go_wp2_with fail
  have hB0 := below_alloc (Below.refl w.heap.size w) (.cells #[.string n, .string m, .slice A2 l2.length c2, .slice A3 l3.length c3, .int .i64 cpu, .int .i64 mem, .slice A6 l6.length c6] 104)
  have hX0 : Box104 w.heap.size A3 l3.length c3 A6 l6.length c6 (w.alloc (.cells #[.string n, .string m, .slice A2 l2.length c2, .slice A3 l3.length c3, .int .i64 cpu, .int .i64 mem, .slice A6 l6.length c6] 104)) :=
    ⟨(newCell _ _ _ 3 _ rfl).1, (newCell _ _ _ 6 _ rfl).1, by simp⟩
  generalize w.alloc (.cells #[.string n, .string m, .slice A2 l2.length c2, .slice A3 l3.length c3, .int .i64 cpu, .int .i64 mem, .slice A6 l6.length c6] 104) = W0 at hB0 hX0 ⊢
  have HB0 := Aside0.mk hB0
  have HX0 := Aside0.mk hX0
  clear hB0 hX0
  go_loopw [17] (fun v17 wr => ∃ i : Nat, v17 = .int .i64 (i : Int) ∧ i ≤ l2.length ∧ Aside0 (cmdP (l2.drop i) = cmdP l2) ∧ Aside0 (Box104 w.heap.size A3 l3.length c3 A6 l6.length c6 wr) ∧ Aside0 (Below w.heap.size w wr)) (fun v17 _ => l2.length - (intOf v17).toNat)
  case atStart => exact ⟨0, rfl, Nat.zero_le _, Aside0.mk rfl, HX0, HB0⟩
  case round =>
    clear HX0 HB0
    obtain ⟨i, rfl, hi, HE, HX, HB⟩ := hrel
    by_cases hlt : i < l2.length
    · have hlt2 : (i : Int) < (l2.length : Int) := by omega
      have hi0 : (0 : Int) ≤ (i : Int) := by omega
      obtain ⟨ad, ea, hcell⟩ := Kd.at_string (Kd.C_below H2.out HB.out) (i : Int) hi0 hlt2
      subst ea
      rw [Int.toNat_natCast] at hcell
      have hr : rdOf ByteArray.empty l2 (i : Int) = l2[i] := by simp [rdOf, List.getD, List.getElem?_eq_getElem hlt]
      have hsz : (rdOf ByteArray.empty l2 (i : Int)).size ≤ 140737488355328 := by rw [hr]; exact S2.out _ (List.getElem_mem hlt)
      have hd : cmdP (l2.drop i) = if textP (rdOf ByteArray.empty l2 (i : Int)) = 0 then cmdP (l2.drop (i + 1)) else textP (rdOf ByteArray.empty l2 (i : Int)) := by
        rw [List.drop_eq_getElem_cons hlt, hr]; rfl
      have hT1 := HT.out.below HB.out
      clear hr
      generalize rdOf ByteArray.empty l2 (i : Int) = s at hcell hsz hd ⊢
      have cT := spec_text.calls s wr hT1 hsz
      by_cases ht : textP s = 0
      · rw [if_pos ht] at hd
        rw [ht] at cT
        have HE2 := Aside0.mk (hd.symm.trans HE.out)
        clear HE hd ht hT1
        have hw1 : wrap64 ((i : Int) + 1) = ((i + 1 : Nat) : Int) := by unfold wrap64; omega
        go_wp2_with (go_at_call 142; refine cT.mono ?_; rintro e w1 ⟨rfl, hb⟩; have HB2 := Aside0.mk (below_step HB.out hb); have HX2 := Aside0.mk (HX.out.later hb); clear hb)
        go_roundw
        case rel => exact ⟨i + 1, by simp [hw1], hlt, HE2, HX2, HB2⟩
        case measure => simp [intOf, hw1]; omega
      · rw [if_neg ht] at hd
        have HE2 := hd.symm.trans HE.out
        generalize textP s = q at cT HE2 ht ⊢
        have hq0 : (q == 0) = false := beq_eq_false_iff_ne.2 ht
        have hq1 : (q != 0) = true := bne_iff_ne.2 ht
        have HF := Aside0.mk (show partsP l2 l3 l6 = q from by unfold partsP; rw [← HE2]; unfold orP; rw [if_neg ht])
        clear HE hd hT1 HE2 ht
        go_wp2_with (go_at_call 142; refine cT.mono ?_; rintro e w1 ⟨rfl, hb⟩; have HB2 := Aside0.mk (below_step HB.out hb); clear hb)
        go_ret
        exact ⟨by rw [HF.out]; rfl, HB2.out⟩
    · have hlt2 : ¬ (i : Int) < (l2.length : Int) := by omega
      have hz : cmdP l2 = 0 := by rw [← HE.out, List.drop_of_length_le (by omega)]; rfl
      have HF := Aside0.mk (show partsP l2 l3 l6 = orP (portsP [] l3) (envP [] l6) from by unfold partsP; unfold orP; rw [if_pos hz])
      clear HE hz H2 S2
      have hmm := @run_makeMap Tryz.prog
      have hbm := (Below.refl wr.heap.size wr).alloc (Nat.le_refl _) (.map #[] 0)
      have HXm := Aside0.mk (HX.out.later hbm)
      have HBm := Aside0.mk (below_step HB.out hbm)
      have HCm := Aside0.mk (Cnt.start (K := 160) (kl := klP) (ok := okP) wr)
      have HLm := Aside0.mk HX.out.lt
      have cx3 := HXm.out.c3
      clear hbm HX HB
      go_wp2_with fail
      generalize hmb : wr.heap.size = mb at HCm HLm ⊢
      generalize wr.alloc (.map #[] 0) = W1 at HXm HBm HCm cx3 ⊢
      clear cx3 hmb hmm
      go_loopw [31] (fun v31 wr => ∃ j : Nat, v31 = .int .i64 (j : Int) ∧ j ≤ l3.length ∧ Aside0 (portsP (l3.take j) (l3.drop j) = portsP [] l3) ∧ Aside0 (Cnt 160 klP okP mb j (l3.take j) wr) ∧ Aside0 (Box104 w.heap.size A3 l3.length c3 A6 l6.length c6 wr) ∧ Aside0 (Below w.heap.size w wr)) (fun v31 _ => l3.length - (intOf v31).toNat)
      case atStart => exact ⟨0, rfl, Nat.zero_le _, Aside0.mk rfl, HCm, HXm, HBm⟩
      case round =>
        clear HXm HBm HCm
        obtain ⟨j, rfl, hj, HE3, HC, HX, HB⟩ := hrel
        by_cases hlt3 : j < l3.length
        · have hlt4 : (j : Int) < (l3.length : Int) := by omega
          have hj0 : (0 : Int) ≤ (j : Int) := by omega
          obtain ⟨ad, ea, hcell0, hcell1⟩ := at_T160 (Kd.C_below H3.out HB.out) (j : Int) hj0 hlt4
          subst ea
          rw [Int.toNat_natCast] at hcell0 hcell1
          have hrd : rd_T160 l3 (j : Int) = l3[j] := by simp [rd_T160, List.getD, List.getElem?_eq_getElem hlt3]
          have hok : okP (rd_T160 l3 (j : Int)) := by rw [hrd]; exact S3.out _ (List.getElem_mem hlt3)
          have hE4 : portsP (l3.take j) (l3.drop j) = if portE (l3.take j) (rd_T160 l3 (j : Int)) = 0 then portsP (l3.take (j + 1)) (l3.drop (j + 1)) else portE (l3.take j) (rd_T160 l3 (j : Int)) := by
            rw [List.drop_eq_getElem_cons hlt3, hrd, List.take_succ_eq_append_getElem hlt3]; rfl
          have htk : l3.take (j + 1) = l3.take j ++ [rd_T160 l3 (j : Int)] := by rw [hrd, List.take_succ_eq_append_getElem hlt3]
          clear hrd
          generalize rd_T160 l3 (j : Int) = p at hcell0 hcell1 hok hE4 htk ⊢
          have HK := Aside0.mk htk
          clear htk
          replace HE3 := Aside0.mk (hE4.symm.trans HE3.out)
          clear hE4
          go_wp2_with fail
          have hba := (Below.refl wr.heap.size wr).alloc (Nat.le_refl _) (.cells #[.int .i64 p.f0, .int .i64 p.f1] 160)
          have hcA0 : (wr.alloc (.cells #[.int .i64 p.f0, .int .i64 p.f1] 160)).cell? ⟨wr.heap.size, 0, none⟩ = some (.int .i64 p.f0) := (newCell wr #[.int .i64 p.f0, .int .i64 p.f1] 160 0 _ rfl).1
          have hcB0 : (wr.alloc (.cells #[.int .i64 p.f0, .int .i64 p.f1] 160)).cell? ⟨wr.heap.size, 1, none⟩ = some (.int .i64 p.f1) := (newCell wr #[.int .i64 p.f0, .int .i64 p.f1] 160 1 _ rfl).1
          have hpb : wr.heap.size < (wr.alloc (.cells #[.int .i64 p.f0, .int .i64 p.f1] 160)).heap.size := by simp
          generalize hW2 : wr.alloc (.cells #[.int .i64 p.f0, .int .i64 p.f1] 160) = W2 at hba hcA0 hcB0 hpb ⊢
          have HC2 := (HC.out.later hba)
          have HX2 := Aside0.mk (HX.out.later hba)
          have HB2 := Aside0.mk (below_step HB.out hba)
          have hmb : mb < wr.heap.size := HC.out.lt
          clear HC HX HB hba hW2 hcell0 hcell1
          generalize wr.heap.size = pb at hcA0 hcB0 hpb hmb ⊢
          have hcnt : cntOf (l3.take j) p ≤ j := Nat.le_trans (cntOf_le _ _) (by rw [List.length_take]; omega)
          obtain ⟨w1, w2, st, v0, hme, hlk1, hst, hg1, hC3, hg2⟩ := Cnt.entry (show Cnt 160 klP okP mb j (l3.take j) W2.drew from HC2.kept (row := none) (grownBy_self_drew W2) (by simp)) lawP keyLawP isKeyP (by unfold maxLen; omega) hok rfl (WalkArith.wf_i64 (by omega))
          have hlk0 := (show Cnt 160 klP okP mb j (l3.take j) W2.drew from HC2.kept (row := none) (grownBy_self_drew W2) (by simp)).look lawP hok
          have HCN := Aside0.mk (show cntOf (l3.take (j + 1)) p = cntOf (l3.take j) p + 1 from by rw [HK.out, count_snoc, if_pos rfl])
          replace hC3 : Cnt 160 klP okP mb (j + 1) (l3.take (j + 1)) w2 := HK.out ▸ hC3
          have HPE := Aside0.mk (show portE (l3.take j) p = if portBad p then 7 else if 0 < cntOf (l3.take j) p then 8 else 0 from rfl)
          generalize cntOf (l3.take j) p = cn at hcnt hme hlk1 hst hlk0 HCN HPE
          have hwc : wrap64 ((cn : Int) + 1) = (cn : Int) + 1 := by unfold wrap64; omega
          simp only [encP, goInt] at hme hlk1 hst hlk0
          have HG2 := Aside0.mk hg2
          have HC4 := Aside0.mk hC3
          have hcA1 : w1.cell? ⟨pb, 0, none⟩ = some (.int .i64 p.f0) := hg1.cell (show W2.drew.cell? ⟨pb, 0, none⟩ = some _ from hcA0) (by simp; omega)
          have hcB1 : w1.cell? ⟨pb, 1, none⟩ = some (.int .i64 p.f1) := hg1.cell (show W2.drew.cell? ⟨pb, 1, none⟩ = some _ from hcB0) (by simp; omega)
          clear hg1 hg2 hC3 HC2
          refine start_ (n := 7) (S := fun w' => w'.cell? ⟨pb, 0, none⟩ = some (.int .i64 p.f0) ∧ w'.cell? ⟨pb, 1, none⟩ = some (.int .i64 p.f1) ∧ (Instr.lookup 218 (.map (some mb)) (.agg #[.int .i64 p.f0, .int .i64 p.f1]) false).run Tryz.prog w' = .ok (.int .i64 (cn : Int)) w') (ds := [6]) #[false, false, false, false, false, false, false] (by kernel_rfl) rfl rfl ⟨hcA0, hcB0, hlk0⟩ (fun hHeld => ?_)
          refine pure_ (i := 0) (N := some 35) (v := ?_) (a' := ?_) #[true, false, false, false, false, false, false] rfl rfl (by kernel_rfl) (fun _ _ _ h => h) (Or.inl ⟨by rfl, ?_⟩) ?_ ?_
          rotate_left
          · intro w'
            go_simp
            with_reducible rfl
          rotate_left
          · simp only [Act.put, List.setIfInBounds_toArray, List.set_cons_zero, List.set_cons_succ, i64_w, i32_w]
            rfl
          refine take_ (i := 1) (N := some 36) (v := ?_) (a' := ?_) #[true, true, false, false, false, false, false] rfl rfl (by kernel_rfl) (fun _ _ _ h => h) (Or.inl ⟨by rfl, ?_⟩) hHeld ?_ ?_
          rotate_left
          · rintro w' ⟨s0, s1, s2⟩
            go_simp
            with_reducible rfl
          rotate_left
          · simp only [Act.put, List.setIfInBounds_toArray, List.set_cons_zero, List.set_cons_succ, i64_w, i32_w]
            rfl
          refine take_ (i := 2) (N := some 37) (v := ?_) (a' := ?_) #[true, true, true, false, false, false, false] rfl rfl (by kernel_rfl) (fun _ _ _ h => h) (Or.inl ⟨by rfl, ?_⟩) hHeld ?_ ?_
          rotate_left
          · rintro w' ⟨s0, s1, s2⟩
            go_simp
            with_reducible rfl
          rotate_left
          · simp only [Act.put, List.setIfInBounds_toArray, List.set_cons_zero, List.set_cons_succ, i64_w, i32_w]
            rfl
          refine pure_ (i := 3) (N := some 38) (v := ?_) (a' := ?_) #[true, true, true, true, false, false, false] rfl rfl (by kernel_rfl) (fun _ _ _ h => h) (Or.inl ⟨by rfl, ?_⟩) ?_ ?_
          rotate_left
          · intro w'
            go_simp
            with_reducible rfl
          rotate_left
          · simp only [Act.put, List.setIfInBounds_toArray, List.set_cons_zero, List.set_cons_succ, i64_w, i32_w]
            rfl
          refine one_ (i := 4) (N := some 39) #[true, true, true, true, true, false, false] rfl rfl (by kernel_rfl) (by decide) (fun K hK => ?_)
          refine value_ (w1 := ?_) (v := ?_) (by rfl) rfl ?_ ?_
          rotate_left 2
          · go_simp
            constructor
            · rfl
            · rfl
          refine hK.out _ _ ⟨hcA1, hcB1, hlk1⟩ (fun hNow => ?_)
          clear hK K hHeld
          have hHeld := hNow
          clear hNow
          refine norm_ (a' := ?_) ?_ ?_
          rotate_left
          · show Act.put _ (some 39) _ = _
            simp only [Act.put, List.setIfInBounds_toArray, List.set_cons_zero, List.set_cons_succ, i64_w, i32_w]
            rfl
          refine pure_ (i := 5) (N := some 40) (v := ?_) (a' := ?_) #[true, true, true, true, true, true, false] rfl rfl (by kernel_rfl) (fun _ _ _ h => h) (Or.inl ⟨by rfl, ?_⟩) ?_ ?_
          rotate_left
          · intro w'
            go_simp
            with_reducible rfl
          rotate_left
          · simp only [Act.put, List.setIfInBounds_toArray, List.set_cons_zero, List.set_cons_succ, i64_w, i32_w]
            rfl
          refine last_ (i := 6) (N := none) #[true, true, true, true, true, true, true] rfl rfl (by kernel_rfl) (by decide) (fun K hK => ?_)
          refine skip_ (w1 := ?_) (by rfl) rfl ?_ ?_
          rotate_left
          · go_simp
            rfl
          refine hK.out _ _ ?_
          clear hK K
          refine done_ (by kernel_rfl) ?_
          clear hHeld hme hlk1 hst hlk0 hcA1 hcB1
          have hcA2 : w2.cell? ⟨pb, 0, none⟩ = some (.int .i64 p.f0) := HG2.out.cell (show W2.drew.cell? ⟨pb, 0, none⟩ = some _ from hcA0) (by simp; omega)
          have hcB2 : w2.cell? ⟨pb, 1, none⟩ = some (.int .i64 p.f1) := HG2.out.cell (show W2.drew.cell? ⟨pb, 1, none⟩ = some _ from hcB0) (by simp; omega)
          have hpb2 : pb < w2.heap.size := Nat.lt_of_lt_of_le hpb HG2.out.size
          have hwl : w.heap.size ≠ mb := by have := HLm.out; omega
          have HX3 := Aside0.mk (HX2.out.kept (show W2.grownBy w2 (some mb) from grownBy_undrew HG2.out) (by simpa using hwl))
          have HB3 := Aside0.mk (HB2.out.grown (show W2.grownBy w2 (some mb) from grownBy_undrew HG2.out) HB2.out.size (fun k e => by cases e; have := HLm.out; omega))
          have hcn2 : cntOf (l3.take (j + 1)) p = cn + 1 := HCN.out
          have hlk2 : (Instr.lookup 218 (.map (some mb)) (.agg #[.int .i64 p.f0, .int .i64 p.f1]) false).run Tryz.prog w2.drew = .ok (.int .i64 ((cn : Int) + 1)) w2.drew := by
            have := (show Cnt 160 klP okP mb (j + 1) (l3.take (j + 1)) w2.drew from HC4.out.kept (row := none) (grownBy_self_drew w2) (by simp)).look lawP hok
            rw [hcn2] at this
            exact this
          have hd2 : Below w2.heap.size w2 w2.drew := ⟨rfl, rfl, rfl, Nat.le_refl _, fun _ _ => rfl⟩
          have hPS := And.intro (show w2.drew.cell? ⟨pb, 0, none⟩ = some (.int .i64 p.f0) from hcA2) (And.intro (show w2.drew.cell? ⟨pb, 1, none⟩ = some (.int .i64 p.f1) from hcB2) (And.intro hlk2 (And.intro (HC4.out.later hd2) (And.intro (show pb < w2.drew.heap.size from hpb2) (And.intro (HX3.out.later hd2) (below_step HB3.out hd2))))))
          have HS := Aside0.mk hPS
          have HQ := Aside0.mk (show ((cntOf (l3.take (j + 1)) p : Nat) : Int) = (cn : Int) + 1 from by rw [hcn2]; omega)
          have HO := Aside0.mk hok
          clear hcA0 hcB0 HX2 HB2 HG2 HCN hpb HC4 hPS hcA2 hcB2 hpb2 hlk2 HX3 HB3 hcn2 hd2 hok hwc hwl
          have cF := fun W => cFrom p.f0 65535 W
          obtain ⟨v2, hv2⟩ : ∃ v2 : Int, v2 = if decide ((1 : Int) < (cn : Int) + 1) then 8 else 0 := ⟨_, rfl⟩
          have cW2 := fun W => cWhen (decide ((1 : Int) < (cn : Int) + 1)) 8 W
          rw [← hv2] at cW2
          have HV2 := Aside0.mk hv2
          clear hv2
          by_cases hbad : portBad p = true
          · have hE : portE (l3.take j) p = 7 := by rw [HPE.out, if_pos hbad]
            have hE7 := HE3.out
            rw [hE, if_neg (by decide)] at hE7
            have HF7 := Aside0.mk (show partsP l2 l3 l6 = 7 from by rw [HF.out, ← hE7]; rfl)
            have HR := Aside0.mk (first2 7 v2 5 (by omega))
            clear hE hE7 HE3 HPE
            cases hfr : (decide (1 ≤ p.f0) && decide (p.f0 ≤ 65535)) with
            | false =>
              rw [hfr] at cF
              clear hfr hbad
              have cW1 := fun W => cWhen true 7 W
              go_wp2_with fail
              refine start_ (n := 23) (S := fun w' => w'.cell? ⟨pb, 0, none⟩ = some (.int .i64 p.f0) ∧ w'.cell? ⟨pb, 1, none⟩ = some (.int .i64 p.f1) ∧ (Instr.lookup 218 (.map (some mb)) (.agg #[.int .i64 p.f0, .int .i64 p.f1]) false).run Tryz.prog w' = .ok (.int .i64 ((cn : Int) + 1)) w' ∧ Cnt 160 klP okP mb (j + 1) (l3.take (j + 1)) w' ∧ pb < w'.heap.size ∧ Box104 w.heap.size (some ad) l3.length c3 A6 l6.length c6 w' ∧ Below w.heap.size w w') (ds := []) #[false, false, false, false, false, false, false, false, false, false, false, false, false, false, false, false, false, false, false, false, false, false, false] (by kernel_rfl) rfl rfl (HS.out) (fun hHeld => ?_)
              refine pure_ (i := 0) (N := some 41) (v := ?_) (a' := ?_) #[true, false, false, false, false, false, false, false, false, false, false, false, false, false, false, false, false, false, false, false, false, false, false] rfl rfl (by kernel_rfl) (fun _ _ _ h => h) (Or.inl ⟨by rfl, ?_⟩) ?_ ?_
              rotate_left
              · intro w'
                go_simp
                with_reducible rfl
              rotate_left
              · simp only [Act.put, List.setIfInBounds_toArray, List.set_cons_zero, List.set_cons_succ, i64_w, i32_w]
                rfl
              refine pure_ (i := 15) (N := some 56) (v := ?_) (a' := ?_) #[true, false, false, false, false, false, false, false, false, false, false, false, false, false, false, true, false, false, false, false, false, false, false] rfl rfl (by kernel_rfl) (fun _ _ _ h => h) (Or.inl ⟨by rfl, ?_⟩) ?_ ?_
              rotate_left
              · intro w'
                go_simp
                with_reducible rfl
              rotate_left
              · simp only [Act.put, List.setIfInBounds_toArray, List.set_cons_zero, List.set_cons_succ, i64_w, i32_w]
                rfl
              refine take_ (i := 1) (N := some 42) (v := ?_) (a' := ?_) #[true, true, false, false, false, false, false, false, false, false, false, false, false, false, false, true, false, false, false, false, false, false, false] rfl rfl (by kernel_rfl) (fun _ _ _ h => h) (Or.inl ⟨by rfl, ?_⟩) hHeld ?_ ?_
              rotate_left
              · rintro w' ⟨s0, s1, s2, s3, s4, s5, s6⟩
                go_simp
                with_reducible rfl
              rotate_left
              · simp only [Act.put, List.setIfInBounds_toArray, List.set_cons_zero, List.set_cons_succ, i64_w, i32_w]
                rfl
              refine take_ (i := 16) (N := some 57) (v := ?_) (a' := ?_) #[true, true, false, false, false, false, false, false, false, false, false, false, false, false, false, true, true, false, false, false, false, false, false] rfl rfl (by kernel_rfl) (fun _ _ _ h => h) (Or.inl ⟨by rfl, ?_⟩) hHeld ?_ ?_
              rotate_left
              · rintro w' ⟨s0, s1, s2, s3, s4, s5, s6⟩
                go_simp
                with_reducible rfl
              rotate_left
              · simp only [Act.put, List.setIfInBounds_toArray, List.set_cons_zero, List.set_cons_succ, i64_w, i32_w]
                rfl
              refine take_ (i := 17) (N := some 58) (v := ?_) (a' := ?_) #[true, true, false, false, false, false, false, false, false, false, false, false, false, false, false, true, true, true, false, false, false, false, false] rfl rfl (by kernel_rfl) (fun _ _ _ h => h) (Or.inl ⟨by rfl, ?_⟩) hHeld ?_ ?_
              rotate_left
              · rintro w' ⟨s0, s1, s2, s3, s4, s5, s6⟩
                go_simp
                with_reducible rfl
              rotate_left
              · simp only [Act.put, List.setIfInBounds_toArray, List.set_cons_zero, List.set_cons_succ, i64_w, i32_w]
                rfl
              refine pure_ (i := 18) (N := some 59) (v := ?_) (a' := ?_) #[true, true, false, false, false, false, false, false, false, false, false, false, false, false, false, true, true, true, true, false, false, false, false] rfl rfl (by kernel_rfl) (fun _ _ _ h => h) (Or.inl ⟨by rfl, ?_⟩) ?_ ?_
              rotate_left
              · intro w'
                go_simp
                with_reducible rfl
              rotate_left
              · simp only [Act.put, List.setIfInBounds_toArray, List.set_cons_zero, List.set_cons_succ, i64_w, i32_w]
                rfl
              refine one_ (i := 2) (N := some 43) #[true, true, true, false, false, false, false, false, false, false, false, false, false, false, false, true, true, true, true, false, false, false, false] rfl rfl (by kernel_rfl) (by decide) (fun K hK => ?_)
              refine goes_ Tryz.func122 (by kernel_rfl) rfl #[.int .i64 p.f0, .int .i64 65535] (by rfl) rfl rfl (by simp only [List.map_toArray, List.map_cons, List.map_nil]; rfl) ?_
              with_reducible refine (cF _).mono ?_
              rintro e w3 ⟨rfl, hb⟩
              refine ⟨_, rfl, ?_⟩
              refine hK.out _ _ (PS_later HO.out HQ.out hHeld hb.below) (fun hNow => ?_)
              clear hK K hHeld
              have hHeld := hNow
              clear hNow
              refine norm_ (a' := ?_) ?_ ?_
              rotate_left
              · show Act.put _ (some 43) _ = _
                simp only [Act.put, List.setIfInBounds_toArray, List.set_cons_zero, List.set_cons_succ, i64_w, i32_w]
                rfl
              refine pure_ (i := 3) (N := some 44) (v := ?_) (a' := ?_) #[true, true, true, true, false, false, false, false, false, false, false, false, false, false, false, true, true, true, true, false, false, false, false] rfl rfl (by kernel_rfl) (fun _ _ _ h => h) (Or.inl ⟨by rfl, ?_⟩) ?_ ?_
              rotate_left
              · intro w'
                go_simp
                with_reducible rfl
              rotate_left
              · simp only [Act.put, List.setIfInBounds_toArray, List.set_cons_zero, List.set_cons_succ, i64_w, i32_w]
                rfl
              refine pure_ (i := 4) (N := some 45) (v := ?_) (a' := ?_) #[true, true, true, true, true, false, false, false, false, false, false, false, false, false, false, true, true, true, true, false, false, false, false] rfl rfl (by kernel_rfl) (fun _ _ _ h => h) (Or.inl ⟨by rfl, ?_⟩) ?_ ?_
              rotate_left
              · intro w'
                go_simp
                with_reducible rfl
              rotate_left
              · simp only [Act.put, List.setIfInBounds_toArray, List.set_cons_zero, List.set_cons_succ, i64_w, i32_w]
                rfl
              refine pure_ (i := 5) (N := some 46) (v := undef) (a' := ?_) #[true, true, true, true, true, true, false, false, false, false, false, false, false, false, false, true, true, true, true, false, false, false, false] rfl rfl (by kernel_rfl) (fun _ _ _ h => h) (Or.inr ⟨by rfl, rfl⟩) ?_ ?_
              rotate_left
              · simp only [Act.put, List.setIfInBounds_toArray, List.set_cons_zero, List.set_cons_succ, i64_w, i32_w]
                rfl
              refine pure_ (i := 6) (N := some 47) (v := undef) (a' := ?_) #[true, true, true, true, true, true, true, false, false, false, false, false, false, false, false, true, true, true, true, false, false, false, false] rfl rfl (by kernel_rfl) (fun _ _ _ h => h) (Or.inr ⟨by rfl, rfl⟩) ?_ ?_
              rotate_left
              · simp only [Act.put, List.setIfInBounds_toArray, List.set_cons_zero, List.set_cons_succ, i64_w, i32_w]
                rfl
              refine pure_ (i := 7) (N := some 48) (v := undef) (a' := ?_) #[true, true, true, true, true, true, true, true, false, false, false, false, false, false, false, true, true, true, true, false, false, false, false] rfl rfl (by kernel_rfl) (fun _ _ _ h => h) (Or.inr ⟨by rfl, rfl⟩) ?_ ?_
              rotate_left
              · simp only [Act.put, List.setIfInBounds_toArray, List.set_cons_zero, List.set_cons_succ, i64_w, i32_w]
                rfl
              refine pure_ (i := 8) (N := some 49) (v := undef) (a' := ?_) #[true, true, true, true, true, true, true, true, true, false, false, false, false, false, false, true, true, true, true, false, false, false, false] rfl rfl (by kernel_rfl) (fun _ _ _ h => h) (Or.inr ⟨by rfl, rfl⟩) ?_ ?_
              rotate_left
              · simp only [Act.put, List.setIfInBounds_toArray, List.set_cons_zero, List.set_cons_succ, i64_w, i32_w]
                rfl
              refine pure_ (i := 9) (N := some 50) (v := undef) (a' := ?_) #[true, true, true, true, true, true, true, true, true, true, false, false, false, false, false, true, true, true, true, false, false, false, false] rfl rfl (by kernel_rfl) (fun _ _ _ h => h) (Or.inr ⟨by rfl, rfl⟩) ?_ ?_
              rotate_left
              · simp only [Act.put, List.setIfInBounds_toArray, List.set_cons_zero, List.set_cons_succ, i64_w, i32_w]
                rfl
              refine pure_ (i := 10) (N := some 51) (v := undef) (a' := ?_) #[true, true, true, true, true, true, true, true, true, true, true, false, false, false, false, true, true, true, true, false, false, false, false] rfl rfl (by kernel_rfl) (fun _ _ _ h => h) (Or.inr ⟨by rfl, rfl⟩) ?_ ?_
              rotate_left
              · simp only [Act.put, List.setIfInBounds_toArray, List.set_cons_zero, List.set_cons_succ, i64_w, i32_w]
                rfl
              refine pure_ (i := 11) (N := some 52) (v := undef) (a' := ?_) #[true, true, true, true, true, true, true, true, true, true, true, true, false, false, false, true, true, true, true, false, false, false, false] rfl rfl (by kernel_rfl) (fun _ _ _ h => h) (Or.inr ⟨by rfl, rfl⟩) ?_ ?_
              rotate_left
              · simp only [Act.put, List.setIfInBounds_toArray, List.set_cons_zero, List.set_cons_succ, i64_w, i32_w]
                rfl
              refine pure_ (i := 12) (N := some 53) (v := undef) (a' := ?_) #[true, true, true, true, true, true, true, true, true, true, true, true, true, false, false, true, true, true, true, false, false, false, false] rfl rfl (by kernel_rfl) (fun _ _ _ h => h) (Or.inr ⟨by rfl, rfl⟩) ?_ ?_
              rotate_left
              · simp only [Act.put, List.setIfInBounds_toArray, List.set_cons_zero, List.set_cons_succ, i64_w, i32_w]
                rfl
              refine pure_ (i := 13) (N := some 54) (v := ?_) (a' := ?_) #[true, true, true, true, true, true, true, true, true, true, true, true, true, true, false, true, true, true, true, false, false, false, false] rfl rfl (by kernel_rfl) (fun _ _ _ h => h) (Or.inl ⟨by rfl, ?_⟩) ?_ ?_
              rotate_left
              · intro w'
                go_simp
                with_reducible rfl
              rotate_left
              · simp only [Act.put, List.setIfInBounds_toArray, List.set_cons_zero, List.set_cons_succ, i64_w, i32_w]
                rfl
              refine one_ (i := 14) (N := some 55) #[true, true, true, true, true, true, true, true, true, true, true, true, true, true, true, true, true, true, true, false, false, false, false] rfl rfl (by kernel_rfl) (by decide) (fun K hK => ?_)
              refine goes_ Tryz.func121 (by kernel_rfl) rfl #[.bool true, .int .i64 7] (by rfl) rfl rfl (by simp only [List.map_toArray, List.map_cons, List.map_nil]; rfl) ?_
              with_reducible refine (cW1 _).mono ?_
              rintro e w4 ⟨rfl, hb⟩
              refine ⟨_, rfl, ?_⟩
              refine hK.out _ _ (PS_later HO.out HQ.out hHeld hb.below) (fun hNow => ?_)
              clear hK K hHeld
              have hHeld := hNow
              clear hNow
              refine norm_ (a' := ?_) ?_ ?_
              rotate_left
              · show Act.put _ (some 55) _ = _
                simp only [Act.put, List.setIfInBounds_toArray, List.set_cons_zero, List.set_cons_succ, i64_w, i32_w]
                rfl
              refine one_ (i := 19) (N := some 60) #[true, true, true, true, true, true, true, true, true, true, true, true, true, true, true, true, true, true, true, true, false, false, false] rfl rfl (by kernel_rfl) (by decide) (fun K hK => ?_)
              refine goes_ Tryz.func121 (by kernel_rfl) rfl #[.bool (decide ((1 : Int) < (cn : Int) + 1)), .int .i64 8] (by rfl) rfl rfl (by simp only [List.map_toArray, List.map_cons, List.map_nil]; rfl) ?_
              with_reducible refine (cW2 _).mono ?_
              rintro e w5 ⟨rfl, hb⟩
              refine ⟨_, rfl, ?_⟩
              refine hK.out _ _ (PS_later HO.out HQ.out hHeld hb.below) (fun hNow => ?_)
              clear hK K hHeld
              have hHeld := hNow
              clear hNow
              refine norm_ (a' := ?_) ?_ ?_
              rotate_left
              · show Act.put _ (some 60) _ = _
                simp only [Act.put, List.setIfInBounds_toArray, List.set_cons_zero, List.set_cons_succ, i64_w, i32_w]
                rfl
              refine one_ (i := 20) (N := some 61) #[true, true, true, true, true, true, true, true, true, true, true, true, true, true, true, true, true, true, true, true, true, false, false] rfl rfl (by kernel_rfl) (by decide) (fun K hK => ?_)
              refine value_ (w1 := ?_) (v := ?_) (by rfl) rfl ?_ ?_
              rotate_left 2
              · go_simp
                constructor
                · rfl
                · rfl
              refine hK.out _ _ (PS_later HO.out HQ.out hHeld ((Below.refl _ _).alloc (Nat.le_refl _) _)) (fun hNow => ?_)
              clear hK K hHeld
              have hHeld := hNow
              clear hNow
              refine norm_ (a' := ?_) ?_ ?_
              rotate_left
              · show Act.put _ (some 61) _ = _
                simp only [Act.put, List.setIfInBounds_toArray, List.set_cons_zero, List.set_cons_succ, i64_w, i32_w]
                rfl
              refine one_ (i := 21) (N := some 62) #[true, true, true, true, true, true, true, true, true, true, true, true, true, true, true, true, true, true, true, true, true, true, false] rfl rfl (by kernel_rfl) (by decide) (fun K hK => ?_)
              refine goes_ Tryz.func120 (by kernel_rfl) rfl #[.slice (some ⟨_, 0, none⟩) 2 2] (by rfl) rfl rfl (by simp only [List.map_toArray, List.map_cons, List.map_nil]; rfl) ?_
              with_reducible refine (cFirst2 _ _ _ _ 29 HR.out).mono ?_
              rintro e w6 ⟨rfl, hb⟩
              refine ⟨_, rfl, ?_⟩
              refine hK.out _ _ (PS_later HO.out HQ.out hHeld hb.below) (fun hNow => ?_)
              clear hK K hHeld
              have hHeld := hNow
              clear hNow
              refine norm_ (a' := ?_) ?_ ?_
              rotate_left
              · show Act.put _ (some 62) _ = _
                simp only [Act.put, List.setIfInBounds_toArray, List.set_cons_zero, List.set_cons_succ, i64_w, i32_w]
                rfl
              refine pure_ (i := 22) (N := some 9) (v := ?_) (a' := ?_) #[true, true, true, true, true, true, true, true, true, true, true, true, true, true, true, true, true, true, true, true, true, true, true] rfl rfl (by kernel_rfl) (fun _ _ _ h => h) (Or.inl ⟨by rfl, ?_⟩) ?_ ?_
              rotate_left
              · intro w'
                go_simp
                with_reducible rfl
              rotate_left
              · simp only [Act.put, List.setIfInBounds_toArray, List.set_cons_zero, List.set_cons_succ, i64_w, i32_w]
                rfl
              refine done_ (by kernel_rfl) ?_
              clear cF cW1 cW2 HR HS HQ HO hcnt hmb
              go_wp2_with fail
              go_ret
              exact ⟨by rw [HF7.out]; rfl, hHeld.2.2.2.2.2.2⟩
            | true =>
              rw [hfr] at cF
              have hb2 : (p.f1 != 0) = true ∧ (p.f1 != 1) = true := by
                unfold portBad at hbad; rw [hfr] at hbad; simpa using hbad
              obtain ⟨hq0, hq1⟩ := hb2
              clear hfr hbad
              have cW1 := fun W => cWhen true 7 W
              go_wp2_with fail
              refine start_ (n := 23) (S := fun w' => w'.cell? ⟨pb, 0, none⟩ = some (.int .i64 p.f0) ∧ w'.cell? ⟨pb, 1, none⟩ = some (.int .i64 p.f1) ∧ (Instr.lookup 218 (.map (some mb)) (.agg #[.int .i64 p.f0, .int .i64 p.f1]) false).run Tryz.prog w' = .ok (.int .i64 ((cn : Int) + 1)) w' ∧ Cnt 160 klP okP mb (j + 1) (l3.take (j + 1)) w' ∧ pb < w'.heap.size ∧ Box104 w.heap.size (some ad) l3.length c3 A6 l6.length c6 w' ∧ Below w.heap.size w w') (ds := []) #[false, false, false, false, false, false, false, false, false, false, false, false, false, false, false, false, false, false, false, false, false, false, false] (by kernel_rfl) rfl rfl (HS.out) (fun hHeld => ?_)
              refine pure_ (i := 0) (N := some 41) (v := ?_) (a' := ?_) #[true, false, false, false, false, false, false, false, false, false, false, false, false, false, false, false, false, false, false, false, false, false, false] rfl rfl (by kernel_rfl) (fun _ _ _ h => h) (Or.inl ⟨by rfl, ?_⟩) ?_ ?_
              rotate_left
              · intro w'
                go_simp
                with_reducible rfl
              rotate_left
              · simp only [Act.put, List.setIfInBounds_toArray, List.set_cons_zero, List.set_cons_succ, i64_w, i32_w]
                rfl
              refine pure_ (i := 15) (N := some 56) (v := ?_) (a' := ?_) #[true, false, false, false, false, false, false, false, false, false, false, false, false, false, false, true, false, false, false, false, false, false, false] rfl rfl (by kernel_rfl) (fun _ _ _ h => h) (Or.inl ⟨by rfl, ?_⟩) ?_ ?_
              rotate_left
              · intro w'
                go_simp
                with_reducible rfl
              rotate_left
              · simp only [Act.put, List.setIfInBounds_toArray, List.set_cons_zero, List.set_cons_succ, i64_w, i32_w]
                rfl
              refine take_ (i := 1) (N := some 42) (v := ?_) (a' := ?_) #[true, true, false, false, false, false, false, false, false, false, false, false, false, false, false, true, false, false, false, false, false, false, false] rfl rfl (by kernel_rfl) (fun _ _ _ h => h) (Or.inl ⟨by rfl, ?_⟩) hHeld ?_ ?_
              rotate_left
              · rintro w' ⟨s0, s1, s2, s3, s4, s5, s6⟩
                go_simp
                with_reducible rfl
              rotate_left
              · simp only [Act.put, List.setIfInBounds_toArray, List.set_cons_zero, List.set_cons_succ, i64_w, i32_w]
                rfl
              refine take_ (i := 16) (N := some 57) (v := ?_) (a' := ?_) #[true, true, false, false, false, false, false, false, false, false, false, false, false, false, false, true, true, false, false, false, false, false, false] rfl rfl (by kernel_rfl) (fun _ _ _ h => h) (Or.inl ⟨by rfl, ?_⟩) hHeld ?_ ?_
              rotate_left
              · rintro w' ⟨s0, s1, s2, s3, s4, s5, s6⟩
                go_simp
                with_reducible rfl
              rotate_left
              · simp only [Act.put, List.setIfInBounds_toArray, List.set_cons_zero, List.set_cons_succ, i64_w, i32_w]
                rfl
              refine take_ (i := 17) (N := some 58) (v := ?_) (a' := ?_) #[true, true, false, false, false, false, false, false, false, false, false, false, false, false, false, true, true, true, false, false, false, false, false] rfl rfl (by kernel_rfl) (fun _ _ _ h => h) (Or.inl ⟨by rfl, ?_⟩) hHeld ?_ ?_
              rotate_left
              · rintro w' ⟨s0, s1, s2, s3, s4, s5, s6⟩
                go_simp
                with_reducible rfl
              rotate_left
              · simp only [Act.put, List.setIfInBounds_toArray, List.set_cons_zero, List.set_cons_succ, i64_w, i32_w]
                rfl
              refine pure_ (i := 18) (N := some 59) (v := ?_) (a' := ?_) #[true, true, false, false, false, false, false, false, false, false, false, false, false, false, false, true, true, true, true, false, false, false, false] rfl rfl (by kernel_rfl) (fun _ _ _ h => h) (Or.inl ⟨by rfl, ?_⟩) ?_ ?_
              rotate_left
              · intro w'
                go_simp
                with_reducible rfl
              rotate_left
              · simp only [Act.put, List.setIfInBounds_toArray, List.set_cons_zero, List.set_cons_succ, i64_w, i32_w]
                rfl
              refine one_ (i := 2) (N := some 43) #[true, true, true, false, false, false, false, false, false, false, false, false, false, false, false, true, true, true, true, false, false, false, false] rfl rfl (by kernel_rfl) (by decide) (fun K hK => ?_)
              refine goes_ Tryz.func122 (by kernel_rfl) rfl #[.int .i64 p.f0, .int .i64 65535] (by rfl) rfl rfl (by simp only [List.map_toArray, List.map_cons, List.map_nil]; rfl) ?_
              with_reducible refine (cF _).mono ?_
              rintro e w3 ⟨rfl, hb⟩
              refine ⟨_, rfl, ?_⟩
              refine hK.out _ _ (PS_later HO.out HQ.out hHeld hb.below) (fun hNow => ?_)
              clear hK K hHeld
              have hHeld := hNow
              clear hNow
              refine norm_ (a' := ?_) ?_ ?_
              rotate_left
              · show Act.put _ (some 43) _ = _
                simp only [Act.put, List.setIfInBounds_toArray, List.set_cons_zero, List.set_cons_succ, i64_w, i32_w]
                rfl
              refine pure_ (i := 3) (N := some 44) (v := ?_) (a' := ?_) #[true, true, true, true, false, false, false, false, false, false, false, false, false, false, false, true, true, true, true, false, false, false, false] rfl rfl (by kernel_rfl) (fun _ _ _ h => h) (Or.inl ⟨by rfl, ?_⟩) ?_ ?_
              rotate_left
              · intro w'
                go_simp
                with_reducible rfl
              rotate_left
              · simp only [Act.put, List.setIfInBounds_toArray, List.set_cons_zero, List.set_cons_succ, i64_w, i32_w]
                rfl
              refine pure_ (i := 4) (N := some 45) (v := ?_) (a' := ?_) #[true, true, true, true, true, false, false, false, false, false, false, false, false, false, false, true, true, true, true, false, false, false, false] rfl rfl (by kernel_rfl) (fun _ _ _ h => h) (Or.inl ⟨by rfl, ?_⟩) ?_ ?_
              rotate_left
              · intro w'
                go_simp
                with_reducible rfl
              rotate_left
              · simp only [Act.put, List.setIfInBounds_toArray, List.set_cons_zero, List.set_cons_succ, i64_w, i32_w]
                rfl
              refine pure_ (i := 5) (N := some 46) (v := ?_) (a' := ?_) #[true, true, true, true, true, true, false, false, false, false, false, false, false, false, false, true, true, true, true, false, false, false, false] rfl rfl (by kernel_rfl) (fun _ _ _ h => h) (Or.inl ⟨by rfl, ?_⟩) ?_ ?_
              rotate_left
              · intro w'
                go_simp
                with_reducible rfl
              rotate_left
              · simp only [Act.put, List.setIfInBounds_toArray, List.set_cons_zero, List.set_cons_succ, i64_w, i32_w]
                rfl
              refine take_ (i := 6) (N := some 47) (v := ?_) (a' := ?_) #[true, true, true, true, true, true, true, false, false, false, false, false, false, false, false, true, true, true, true, false, false, false, false] rfl rfl (by kernel_rfl) (fun _ _ _ h => h) (Or.inl ⟨by rfl, ?_⟩) hHeld ?_ ?_
              rotate_left
              · rintro w' ⟨s0, s1, s2, s3, s4, s5, s6⟩
                go_simp
                with_reducible rfl
              rotate_left
              · simp only [Act.put, List.setIfInBounds_toArray, List.set_cons_zero, List.set_cons_succ, i64_w, i32_w]
                rfl
              refine pure_ (i := 7) (N := some 48) (v := ?_) (a' := ?_) #[true, true, true, true, true, true, true, true, false, false, false, false, false, false, false, true, true, true, true, false, false, false, false] rfl rfl (by kernel_rfl) (fun _ _ _ h => h) (Or.inl ⟨by rfl, ?_⟩) ?_ ?_
              rotate_left
              · intro w'
                go_simp
                with_reducible rfl
              rotate_left
              · simp only [Act.put, List.setIfInBounds_toArray, List.set_cons_zero, List.set_cons_succ, i64_w, i32_w]
                rfl
              refine pure_ (i := 8) (N := some 49) (v := ?_) (a' := ?_) #[true, true, true, true, true, true, true, true, true, false, false, false, false, false, false, true, true, true, true, false, false, false, false] rfl rfl (by kernel_rfl) (fun _ _ _ h => h) (Or.inl ⟨by rfl, ?_⟩) ?_ ?_
              rotate_left
              · intro w'
                go_simp
                with_reducible rfl
              rotate_left
              · simp only [Act.put, List.setIfInBounds_toArray, List.set_cons_zero, List.set_cons_succ, i64_w, i32_w]
                rfl
              refine pure_ (i := 9) (N := some 50) (v := ?_) (a' := ?_) #[true, true, true, true, true, true, true, true, true, true, false, false, false, false, false, true, true, true, true, false, false, false, false] rfl rfl (by kernel_rfl) (fun _ _ _ h => h) (Or.inl ⟨by rfl, ?_⟩) ?_ ?_
              rotate_left
              · intro w'
                go_simp
                with_reducible rfl
              rotate_left
              · simp only [Act.put, List.setIfInBounds_toArray, List.set_cons_zero, List.set_cons_succ, i64_w, i32_w]
                rfl
              refine take_ (i := 10) (N := some 51) (v := ?_) (a' := ?_) #[true, true, true, true, true, true, true, true, true, true, true, false, false, false, false, true, true, true, true, false, false, false, false] rfl rfl (by kernel_rfl) (fun _ _ _ h => h) (Or.inl ⟨by rfl, ?_⟩) hHeld ?_ ?_
              rotate_left
              · rintro w' ⟨s0, s1, s2, s3, s4, s5, s6⟩
                go_simp
                with_reducible rfl
              rotate_left
              · simp only [Act.put, List.setIfInBounds_toArray, List.set_cons_zero, List.set_cons_succ, i64_w, i32_w]
                rfl
              refine pure_ (i := 11) (N := some 52) (v := ?_) (a' := ?_) #[true, true, true, true, true, true, true, true, true, true, true, true, false, false, false, true, true, true, true, false, false, false, false] rfl rfl (by kernel_rfl) (fun _ _ _ h => h) (Or.inl ⟨by rfl, ?_⟩) ?_ ?_
              rotate_left
              · intro w'
                go_simp
                with_reducible rfl
              rotate_left
              · simp only [Act.put, List.setIfInBounds_toArray, List.set_cons_zero, List.set_cons_succ, i64_w, i32_w]
                rfl
              refine pure_ (i := 12) (N := some 53) (v := ?_) (a' := ?_) #[true, true, true, true, true, true, true, true, true, true, true, true, true, false, false, true, true, true, true, false, false, false, false] rfl rfl (by kernel_rfl) (fun _ _ _ h => h) (Or.inl ⟨by rfl, ?_⟩) ?_ ?_
              rotate_left
              · intro w'
                go_simp
                with_reducible rfl
              rotate_left
              · simp only [Act.put, List.setIfInBounds_toArray, List.set_cons_zero, List.set_cons_succ, i64_w, i32_w]
                rfl
              refine pure_ (i := 13) (N := some 54) (v := ?_) (a' := ?_) #[true, true, true, true, true, true, true, true, true, true, true, true, true, true, false, true, true, true, true, false, false, false, false] rfl rfl (by kernel_rfl) (fun _ _ _ h => h) (Or.inl ⟨by rfl, ?_⟩) ?_ ?_
              rotate_left
              · intro w'
                go_simp
                with_reducible rfl
              rotate_left
              · simp only [Act.put, List.setIfInBounds_toArray, List.set_cons_zero, List.set_cons_succ, i64_w, i32_w]
                rfl
              refine one_ (i := 14) (N := some 55) #[true, true, true, true, true, true, true, true, true, true, true, true, true, true, true, true, true, true, true, false, false, false, false] rfl rfl (by kernel_rfl) (by decide) (fun K hK => ?_)
              refine goes_ Tryz.func121 (by kernel_rfl) rfl #[.bool true, .int .i64 7] (by rfl) rfl rfl (by simp only [List.map_toArray, List.map_cons, List.map_nil]; rfl) ?_
              with_reducible refine (cW1 _).mono ?_
              rintro e w4 ⟨rfl, hb⟩
              refine ⟨_, rfl, ?_⟩
              refine hK.out _ _ (PS_later HO.out HQ.out hHeld hb.below) (fun hNow => ?_)
              clear hK K hHeld
              have hHeld := hNow
              clear hNow
              refine norm_ (a' := ?_) ?_ ?_
              rotate_left
              · show Act.put _ (some 55) _ = _
                simp only [Act.put, List.setIfInBounds_toArray, List.set_cons_zero, List.set_cons_succ, i64_w, i32_w]
                rfl
              refine one_ (i := 19) (N := some 60) #[true, true, true, true, true, true, true, true, true, true, true, true, true, true, true, true, true, true, true, true, false, false, false] rfl rfl (by kernel_rfl) (by decide) (fun K hK => ?_)
              refine goes_ Tryz.func121 (by kernel_rfl) rfl #[.bool (decide ((1 : Int) < (cn : Int) + 1)), .int .i64 8] (by rfl) rfl rfl (by simp only [List.map_toArray, List.map_cons, List.map_nil]; rfl) ?_
              with_reducible refine (cW2 _).mono ?_
              rintro e w5 ⟨rfl, hb⟩
              refine ⟨_, rfl, ?_⟩
              refine hK.out _ _ (PS_later HO.out HQ.out hHeld hb.below) (fun hNow => ?_)
              clear hK K hHeld
              have hHeld := hNow
              clear hNow
              refine norm_ (a' := ?_) ?_ ?_
              rotate_left
              · show Act.put _ (some 60) _ = _
                simp only [Act.put, List.setIfInBounds_toArray, List.set_cons_zero, List.set_cons_succ, i64_w, i32_w]
                rfl
              refine one_ (i := 20) (N := some 61) #[true, true, true, true, true, true, true, true, true, true, true, true, true, true, true, true, true, true, true, true, true, false, false] rfl rfl (by kernel_rfl) (by decide) (fun K hK => ?_)
              refine value_ (w1 := ?_) (v := ?_) (by rfl) rfl ?_ ?_
              rotate_left 2
              · go_simp
                constructor
                · rfl
                · rfl
              refine hK.out _ _ (PS_later HO.out HQ.out hHeld ((Below.refl _ _).alloc (Nat.le_refl _) _)) (fun hNow => ?_)
              clear hK K hHeld
              have hHeld := hNow
              clear hNow
              refine norm_ (a' := ?_) ?_ ?_
              rotate_left
              · show Act.put _ (some 61) _ = _
                simp only [Act.put, List.setIfInBounds_toArray, List.set_cons_zero, List.set_cons_succ, i64_w, i32_w]
                rfl
              refine one_ (i := 21) (N := some 62) #[true, true, true, true, true, true, true, true, true, true, true, true, true, true, true, true, true, true, true, true, true, true, false] rfl rfl (by kernel_rfl) (by decide) (fun K hK => ?_)
              refine goes_ Tryz.func120 (by kernel_rfl) rfl #[.slice (some ⟨_, 0, none⟩) 2 2] (by rfl) rfl rfl (by simp only [List.map_toArray, List.map_cons, List.map_nil]; rfl) ?_
              with_reducible refine (cFirst2 _ _ _ _ 29 HR.out).mono ?_
              rintro e w6 ⟨rfl, hb⟩
              refine ⟨_, rfl, ?_⟩
              refine hK.out _ _ (PS_later HO.out HQ.out hHeld hb.below) (fun hNow => ?_)
              clear hK K hHeld
              have hHeld := hNow
              clear hNow
              refine norm_ (a' := ?_) ?_ ?_
              rotate_left
              · show Act.put _ (some 62) _ = _
                simp only [Act.put, List.setIfInBounds_toArray, List.set_cons_zero, List.set_cons_succ, i64_w, i32_w]
                rfl
              refine pure_ (i := 22) (N := some 9) (v := ?_) (a' := ?_) #[true, true, true, true, true, true, true, true, true, true, true, true, true, true, true, true, true, true, true, true, true, true, true] rfl rfl (by kernel_rfl) (fun _ _ _ h => h) (Or.inl ⟨by rfl, ?_⟩) ?_ ?_
              rotate_left
              · intro w'
                go_simp
                with_reducible rfl
              rotate_left
              · simp only [Act.put, List.setIfInBounds_toArray, List.set_cons_zero, List.set_cons_succ, i64_w, i32_w]
                rfl
              refine done_ (by kernel_rfl) ?_
              clear cF cW1 cW2 HR HS HQ HO hcnt hmb
              go_wp2_with fail
              go_ret
              exact ⟨by rw [HF7.out]; rfl, hHeld.2.2.2.2.2.2⟩
          · have hE : portE (l3.take j) p = v2 := by
              rw [HPE.out, if_neg hbad, HV2.out]
              by_cases h0 : 0 < cn
              · rw [if_pos h0, if_pos (by rw [decide_eq_true_eq]; omega)]
              · rw [if_neg h0, if_neg (by rw [decide_eq_true_eq]; omega)]
            have hE8 := HE3.out
            rw [hE] at hE8
            have HE8 := Aside0.mk hE8
            clear hE hE8 HE3 HPE HV2
            have hfr : (decide (1 ≤ p.f0) && decide (p.f0 ≤ 65535)) = true := by
              unfold portBad at hbad; simp at hbad; simp; omega
            rw [hfr] at cF
            have cW1 := fun W => cWhen false 7 W
            have HR := Aside0.mk (first2 0 v2 5 (by omega))
            by_cases hf0 : p.f1 = 0
            · have hq0 : (p.f1 != 0) = false := by rw [hf0]; rfl
              clear hfr hbad hf0
              go_wp2_with fail
              refine start_ (n := 23) (S := fun w' => w'.cell? ⟨pb, 0, none⟩ = some (.int .i64 p.f0) ∧ w'.cell? ⟨pb, 1, none⟩ = some (.int .i64 p.f1) ∧ (Instr.lookup 218 (.map (some mb)) (.agg #[.int .i64 p.f0, .int .i64 p.f1]) false).run Tryz.prog w' = .ok (.int .i64 ((cn : Int) + 1)) w' ∧ Cnt 160 klP okP mb (j + 1) (l3.take (j + 1)) w' ∧ pb < w'.heap.size ∧ Box104 w.heap.size (some ad) l3.length c3 A6 l6.length c6 w' ∧ Below w.heap.size w w') (ds := []) #[false, false, false, false, false, false, false, false, false, false, false, false, false, false, false, false, false, false, false, false, false, false, false] (by kernel_rfl) rfl rfl (HS.out) (fun hHeld => ?_)
              refine pure_ (i := 0) (N := some 41) (v := ?_) (a' := ?_) #[true, false, false, false, false, false, false, false, false, false, false, false, false, false, false, false, false, false, false, false, false, false, false] rfl rfl (by kernel_rfl) (fun _ _ _ h => h) (Or.inl ⟨by rfl, ?_⟩) ?_ ?_
              rotate_left
              · intro w'
                go_simp
                with_reducible rfl
              rotate_left
              · simp only [Act.put, List.setIfInBounds_toArray, List.set_cons_zero, List.set_cons_succ, i64_w, i32_w]
                rfl
              refine pure_ (i := 15) (N := some 56) (v := ?_) (a' := ?_) #[true, false, false, false, false, false, false, false, false, false, false, false, false, false, false, true, false, false, false, false, false, false, false] rfl rfl (by kernel_rfl) (fun _ _ _ h => h) (Or.inl ⟨by rfl, ?_⟩) ?_ ?_
              rotate_left
              · intro w'
                go_simp
                with_reducible rfl
              rotate_left
              · simp only [Act.put, List.setIfInBounds_toArray, List.set_cons_zero, List.set_cons_succ, i64_w, i32_w]
                rfl
              refine take_ (i := 1) (N := some 42) (v := ?_) (a' := ?_) #[true, true, false, false, false, false, false, false, false, false, false, false, false, false, false, true, false, false, false, false, false, false, false] rfl rfl (by kernel_rfl) (fun _ _ _ h => h) (Or.inl ⟨by rfl, ?_⟩) hHeld ?_ ?_
              rotate_left
              · rintro w' ⟨s0, s1, s2, s3, s4, s5, s6⟩
                go_simp
                with_reducible rfl
              rotate_left
              · simp only [Act.put, List.setIfInBounds_toArray, List.set_cons_zero, List.set_cons_succ, i64_w, i32_w]
                rfl
              refine take_ (i := 16) (N := some 57) (v := ?_) (a' := ?_) #[true, true, false, false, false, false, false, false, false, false, false, false, false, false, false, true, true, false, false, false, false, false, false] rfl rfl (by kernel_rfl) (fun _ _ _ h => h) (Or.inl ⟨by rfl, ?_⟩) hHeld ?_ ?_
              rotate_left
              · rintro w' ⟨s0, s1, s2, s3, s4, s5, s6⟩
                go_simp
                with_reducible rfl
              rotate_left
              · simp only [Act.put, List.setIfInBounds_toArray, List.set_cons_zero, List.set_cons_succ, i64_w, i32_w]
                rfl
              refine take_ (i := 17) (N := some 58) (v := ?_) (a' := ?_) #[true, true, false, false, false, false, false, false, false, false, false, false, false, false, false, true, true, true, false, false, false, false, false] rfl rfl (by kernel_rfl) (fun _ _ _ h => h) (Or.inl ⟨by rfl, ?_⟩) hHeld ?_ ?_
              rotate_left
              · rintro w' ⟨s0, s1, s2, s3, s4, s5, s6⟩
                go_simp
                with_reducible rfl
              rotate_left
              · simp only [Act.put, List.setIfInBounds_toArray, List.set_cons_zero, List.set_cons_succ, i64_w, i32_w]
                rfl
              refine pure_ (i := 18) (N := some 59) (v := ?_) (a' := ?_) #[true, true, false, false, false, false, false, false, false, false, false, false, false, false, false, true, true, true, true, false, false, false, false] rfl rfl (by kernel_rfl) (fun _ _ _ h => h) (Or.inl ⟨by rfl, ?_⟩) ?_ ?_
              rotate_left
              · intro w'
                go_simp
                with_reducible rfl
              rotate_left
              · simp only [Act.put, List.setIfInBounds_toArray, List.set_cons_zero, List.set_cons_succ, i64_w, i32_w]
                rfl
              refine one_ (i := 2) (N := some 43) #[true, true, true, false, false, false, false, false, false, false, false, false, false, false, false, true, true, true, true, false, false, false, false] rfl rfl (by kernel_rfl) (by decide) (fun K hK => ?_)
              refine goes_ Tryz.func122 (by kernel_rfl) rfl #[.int .i64 p.f0, .int .i64 65535] (by rfl) rfl rfl (by simp only [List.map_toArray, List.map_cons, List.map_nil]; rfl) ?_
              with_reducible refine (cF _).mono ?_
              rintro e w3 ⟨rfl, hb⟩
              refine ⟨_, rfl, ?_⟩
              refine hK.out _ _ (PS_later HO.out HQ.out hHeld hb.below) (fun hNow => ?_)
              clear hK K hHeld
              have hHeld := hNow
              clear hNow
              refine norm_ (a' := ?_) ?_ ?_
              rotate_left
              · show Act.put _ (some 43) _ = _
                simp only [Act.put, List.setIfInBounds_toArray, List.set_cons_zero, List.set_cons_succ, i64_w, i32_w]
                rfl
              refine pure_ (i := 3) (N := some 44) (v := ?_) (a' := ?_) #[true, true, true, true, false, false, false, false, false, false, false, false, false, false, false, true, true, true, true, false, false, false, false] rfl rfl (by kernel_rfl) (fun _ _ _ h => h) (Or.inl ⟨by rfl, ?_⟩) ?_ ?_
              rotate_left
              · intro w'
                go_simp
                with_reducible rfl
              rotate_left
              · simp only [Act.put, List.setIfInBounds_toArray, List.set_cons_zero, List.set_cons_succ, i64_w, i32_w]
                rfl
              refine pure_ (i := 4) (N := some 45) (v := ?_) (a' := ?_) #[true, true, true, true, true, false, false, false, false, false, false, false, false, false, false, true, true, true, true, false, false, false, false] rfl rfl (by kernel_rfl) (fun _ _ _ h => h) (Or.inl ⟨by rfl, ?_⟩) ?_ ?_
              rotate_left
              · intro w'
                go_simp
                with_reducible rfl
              rotate_left
              · simp only [Act.put, List.setIfInBounds_toArray, List.set_cons_zero, List.set_cons_succ, i64_w, i32_w]
                rfl
              refine pure_ (i := 5) (N := some 46) (v := ?_) (a' := ?_) #[true, true, true, true, true, true, false, false, false, false, false, false, false, false, false, true, true, true, true, false, false, false, false] rfl rfl (by kernel_rfl) (fun _ _ _ h => h) (Or.inl ⟨by rfl, ?_⟩) ?_ ?_
              rotate_left
              · intro w'
                go_simp
                with_reducible rfl
              rotate_left
              · simp only [Act.put, List.setIfInBounds_toArray, List.set_cons_zero, List.set_cons_succ, i64_w, i32_w]
                rfl
              refine take_ (i := 6) (N := some 47) (v := ?_) (a' := ?_) #[true, true, true, true, true, true, true, false, false, false, false, false, false, false, false, true, true, true, true, false, false, false, false] rfl rfl (by kernel_rfl) (fun _ _ _ h => h) (Or.inl ⟨by rfl, ?_⟩) hHeld ?_ ?_
              rotate_left
              · rintro w' ⟨s0, s1, s2, s3, s4, s5, s6⟩
                go_simp
                with_reducible rfl
              rotate_left
              · simp only [Act.put, List.setIfInBounds_toArray, List.set_cons_zero, List.set_cons_succ, i64_w, i32_w]
                rfl
              refine pure_ (i := 7) (N := some 48) (v := ?_) (a' := ?_) #[true, true, true, true, true, true, true, true, false, false, false, false, false, false, false, true, true, true, true, false, false, false, false] rfl rfl (by kernel_rfl) (fun _ _ _ h => h) (Or.inl ⟨by rfl, ?_⟩) ?_ ?_
              rotate_left
              · intro w'
                go_simp
                with_reducible rfl
              rotate_left
              · simp only [Act.put, List.setIfInBounds_toArray, List.set_cons_zero, List.set_cons_succ, i64_w, i32_w]
                rfl
              refine pure_ (i := 8) (N := some 49) (v := ?_) (a' := ?_) #[true, true, true, true, true, true, true, true, true, false, false, false, false, false, false, true, true, true, true, false, false, false, false] rfl rfl (by kernel_rfl) (fun _ _ _ h => h) (Or.inl ⟨by rfl, ?_⟩) ?_ ?_
              rotate_left
              · intro w'
                go_simp
                with_reducible rfl
              rotate_left
              · simp only [Act.put, List.setIfInBounds_toArray, List.set_cons_zero, List.set_cons_succ, i64_w, i32_w]
                rfl
              refine pure_ (i := 9) (N := some 50) (v := undef) (a' := ?_) #[true, true, true, true, true, true, true, true, true, true, false, false, false, false, false, true, true, true, true, false, false, false, false] rfl rfl (by kernel_rfl) (fun _ _ _ h => h) (Or.inr ⟨by rfl, rfl⟩) ?_ ?_
              rotate_left
              · simp only [Act.put, List.setIfInBounds_toArray, List.set_cons_zero, List.set_cons_succ, i64_w, i32_w]
                rfl
              refine pure_ (i := 10) (N := some 51) (v := undef) (a' := ?_) #[true, true, true, true, true, true, true, true, true, true, true, false, false, false, false, true, true, true, true, false, false, false, false] rfl rfl (by kernel_rfl) (fun _ _ _ h => h) (Or.inr ⟨by rfl, rfl⟩) ?_ ?_
              rotate_left
              · simp only [Act.put, List.setIfInBounds_toArray, List.set_cons_zero, List.set_cons_succ, i64_w, i32_w]
                rfl
              refine pure_ (i := 11) (N := some 52) (v := undef) (a' := ?_) #[true, true, true, true, true, true, true, true, true, true, true, true, false, false, false, true, true, true, true, false, false, false, false] rfl rfl (by kernel_rfl) (fun _ _ _ h => h) (Or.inr ⟨by rfl, rfl⟩) ?_ ?_
              rotate_left
              · simp only [Act.put, List.setIfInBounds_toArray, List.set_cons_zero, List.set_cons_succ, i64_w, i32_w]
                rfl
              refine pure_ (i := 12) (N := some 53) (v := ?_) (a' := ?_) #[true, true, true, true, true, true, true, true, true, true, true, true, true, false, false, true, true, true, true, false, false, false, false] rfl rfl (by kernel_rfl) (fun _ _ _ h => h) (Or.inl ⟨by rfl, ?_⟩) ?_ ?_
              rotate_left
              · intro w'
                go_simp
                with_reducible rfl
              rotate_left
              · simp only [Act.put, List.setIfInBounds_toArray, List.set_cons_zero, List.set_cons_succ, i64_w, i32_w]
                rfl
              refine pure_ (i := 13) (N := some 54) (v := ?_) (a' := ?_) #[true, true, true, true, true, true, true, true, true, true, true, true, true, true, false, true, true, true, true, false, false, false, false] rfl rfl (by kernel_rfl) (fun _ _ _ h => h) (Or.inl ⟨by rfl, ?_⟩) ?_ ?_
              rotate_left
              · intro w'
                go_simp
                with_reducible rfl
              rotate_left
              · simp only [Act.put, List.setIfInBounds_toArray, List.set_cons_zero, List.set_cons_succ, i64_w, i32_w]
                rfl
              refine one_ (i := 14) (N := some 55) #[true, true, true, true, true, true, true, true, true, true, true, true, true, true, true, true, true, true, true, false, false, false, false] rfl rfl (by kernel_rfl) (by decide) (fun K hK => ?_)
              refine goes_ Tryz.func121 (by kernel_rfl) rfl #[.bool false, .int .i64 7] (by rfl) rfl rfl (by simp only [List.map_toArray, List.map_cons, List.map_nil]; rfl) ?_
              with_reducible refine (cW1 _).mono ?_
              rintro e w4 ⟨rfl, hb⟩
              refine ⟨_, rfl, ?_⟩
              refine hK.out _ _ (PS_later HO.out HQ.out hHeld hb.below) (fun hNow => ?_)
              clear hK K hHeld
              have hHeld := hNow
              clear hNow
              refine norm_ (a' := ?_) ?_ ?_
              rotate_left
              · show Act.put _ (some 55) _ = _
                simp only [Act.put, List.setIfInBounds_toArray, List.set_cons_zero, List.set_cons_succ, i64_w, i32_w]
                rfl
              refine one_ (i := 19) (N := some 60) #[true, true, true, true, true, true, true, true, true, true, true, true, true, true, true, true, true, true, true, true, false, false, false] rfl rfl (by kernel_rfl) (by decide) (fun K hK => ?_)
              refine goes_ Tryz.func121 (by kernel_rfl) rfl #[.bool (decide ((1 : Int) < (cn : Int) + 1)), .int .i64 8] (by rfl) rfl rfl (by simp only [List.map_toArray, List.map_cons, List.map_nil]; rfl) ?_
              with_reducible refine (cW2 _).mono ?_
              rintro e w5 ⟨rfl, hb⟩
              refine ⟨_, rfl, ?_⟩
              refine hK.out _ _ (PS_later HO.out HQ.out hHeld hb.below) (fun hNow => ?_)
              clear hK K hHeld
              have hHeld := hNow
              clear hNow
              refine norm_ (a' := ?_) ?_ ?_
              rotate_left
              · show Act.put _ (some 60) _ = _
                simp only [Act.put, List.setIfInBounds_toArray, List.set_cons_zero, List.set_cons_succ, i64_w, i32_w]
                rfl
              refine one_ (i := 20) (N := some 61) #[true, true, true, true, true, true, true, true, true, true, true, true, true, true, true, true, true, true, true, true, true, false, false] rfl rfl (by kernel_rfl) (by decide) (fun K hK => ?_)
              refine value_ (w1 := ?_) (v := ?_) (by rfl) rfl ?_ ?_
              rotate_left 2
              · go_simp
                constructor
                · rfl
                · rfl
              refine hK.out _ _ (PS_later HO.out HQ.out hHeld ((Below.refl _ _).alloc (Nat.le_refl _) _)) (fun hNow => ?_)
              clear hK K hHeld
              have hHeld := hNow
              clear hNow
              refine norm_ (a' := ?_) ?_ ?_
              rotate_left
              · show Act.put _ (some 61) _ = _
                simp only [Act.put, List.setIfInBounds_toArray, List.set_cons_zero, List.set_cons_succ, i64_w, i32_w]
                rfl
              refine one_ (i := 21) (N := some 62) #[true, true, true, true, true, true, true, true, true, true, true, true, true, true, true, true, true, true, true, true, true, true, false] rfl rfl (by kernel_rfl) (by decide) (fun K hK => ?_)
              refine goes_ Tryz.func120 (by kernel_rfl) rfl #[.slice (some ⟨_, 0, none⟩) 2 2] (by rfl) rfl rfl (by simp only [List.map_toArray, List.map_cons, List.map_nil]; rfl) ?_
              with_reducible refine (cFirst2 _ _ _ _ 29 HR.out).mono ?_
              rintro e w6 ⟨rfl, hb⟩
              refine ⟨_, rfl, ?_⟩
              refine hK.out _ _ (PS_later HO.out HQ.out hHeld hb.below) (fun hNow => ?_)
              clear hK K hHeld
              have hHeld := hNow
              clear hNow
              refine norm_ (a' := ?_) ?_ ?_
              rotate_left
              · show Act.put _ (some 62) _ = _
                simp only [Act.put, List.setIfInBounds_toArray, List.set_cons_zero, List.set_cons_succ, i64_w, i32_w]
                rfl
              refine pure_ (i := 22) (N := some 9) (v := ?_) (a' := ?_) #[true, true, true, true, true, true, true, true, true, true, true, true, true, true, true, true, true, true, true, true, true, true, true] rfl rfl (by kernel_rfl) (fun _ _ _ h => h) (Or.inl ⟨by rfl, ?_⟩) ?_ ?_
              rotate_left
              · intro w'
                go_simp
                with_reducible rfl
              rotate_left
              · simp only [Act.put, List.setIfInBounds_toArray, List.set_cons_zero, List.set_cons_succ, i64_w, i32_w]
                rfl
              refine done_ (by kernel_rfl) ?_
              clear cF cW1 cW2 HR HS HQ HO hcnt hmb
              by_cases h0 : v2 = 0
              · have hE9 := HE8.out
                rw [if_pos h0] at hE9
                have HE9 := Aside0.mk hE9
                clear hE9 HE8
                subst h0
                have HC9 := Aside0.mk hHeld.2.2.2.1
                have HX9 := Aside0.mk hHeld.2.2.2.2.2.1
                have HB9 := Aside0.mk hHeld.2.2.2.2.2.2
                clear hHeld
                go_wp2_with fail
                have hw1 : wrap64 ((j : Int) + 1) = ((j + 1 : Nat) : Int) := by unfold wrap64; omega
                go_roundw
                case rel => exact ⟨j + 1, by simp [hw1], hlt3, HE9, HC9, HX9, HB9⟩
                case measure => simp [intOf, hw1]; omega
              · have hz0 : (v2 == 0) = false := beq_eq_false_iff_ne.2 h0
                have hz1 : (v2 != 0) = true := bne_iff_ne.2 h0
                have hE9 := HE8.out
                rw [if_neg h0] at hE9
                have HF9 := Aside0.mk (show partsP l2 l3 l6 = v2 from by rw [HF.out, ← hE9]; unfold orP; rw [if_neg h0])
                clear hE9 HE8 h0
                have HB9 := Aside0.mk hHeld.2.2.2.2.2.2
                clear hHeld
                go_wp2_with fail
                go_ret
                exact ⟨by rw [HF9.out]; rfl, HB9.out⟩
            · have hq0 : (p.f1 != 0) = true := bne_iff_ne.2 hf0
              have hq1 : (p.f1 != 1) = false := by
                unfold portBad at hbad; rw [hfr, hq0] at hbad; simpa using hbad
              clear hfr hbad hf0
              go_wp2_with fail
              refine start_ (n := 23) (S := fun w' => w'.cell? ⟨pb, 0, none⟩ = some (.int .i64 p.f0) ∧ w'.cell? ⟨pb, 1, none⟩ = some (.int .i64 p.f1) ∧ (Instr.lookup 218 (.map (some mb)) (.agg #[.int .i64 p.f0, .int .i64 p.f1]) false).run Tryz.prog w' = .ok (.int .i64 ((cn : Int) + 1)) w' ∧ Cnt 160 klP okP mb (j + 1) (l3.take (j + 1)) w' ∧ pb < w'.heap.size ∧ Box104 w.heap.size (some ad) l3.length c3 A6 l6.length c6 w' ∧ Below w.heap.size w w') (ds := []) #[false, false, false, false, false, false, false, false, false, false, false, false, false, false, false, false, false, false, false, false, false, false, false] (by kernel_rfl) rfl rfl (HS.out) (fun hHeld => ?_)
              refine pure_ (i := 0) (N := some 41) (v := ?_) (a' := ?_) #[true, false, false, false, false, false, false, false, false, false, false, false, false, false, false, false, false, false, false, false, false, false, false] rfl rfl (by kernel_rfl) (fun _ _ _ h => h) (Or.inl ⟨by rfl, ?_⟩) ?_ ?_
              rotate_left
              · intro w'
                go_simp
                with_reducible rfl
              rotate_left
              · simp only [Act.put, List.setIfInBounds_toArray, List.set_cons_zero, List.set_cons_succ, i64_w, i32_w]
                rfl
              refine pure_ (i := 15) (N := some 56) (v := ?_) (a' := ?_) #[true, false, false, false, false, false, false, false, false, false, false, false, false, false, false, true, false, false, false, false, false, false, false] rfl rfl (by kernel_rfl) (fun _ _ _ h => h) (Or.inl ⟨by rfl, ?_⟩) ?_ ?_
              rotate_left
              · intro w'
                go_simp
                with_reducible rfl
              rotate_left
              · simp only [Act.put, List.setIfInBounds_toArray, List.set_cons_zero, List.set_cons_succ, i64_w, i32_w]
                rfl
              refine take_ (i := 1) (N := some 42) (v := ?_) (a' := ?_) #[true, true, false, false, false, false, false, false, false, false, false, false, false, false, false, true, false, false, false, false, false, false, false] rfl rfl (by kernel_rfl) (fun _ _ _ h => h) (Or.inl ⟨by rfl, ?_⟩) hHeld ?_ ?_
              rotate_left
              · rintro w' ⟨s0, s1, s2, s3, s4, s5, s6⟩
                go_simp
                with_reducible rfl
              rotate_left
              · simp only [Act.put, List.setIfInBounds_toArray, List.set_cons_zero, List.set_cons_succ, i64_w, i32_w]
                rfl
              refine take_ (i := 16) (N := some 57) (v := ?_) (a' := ?_) #[true, true, false, false, false, false, false, false, false, false, false, false, false, false, false, true, true, false, false, false, false, false, false] rfl rfl (by kernel_rfl) (fun _ _ _ h => h) (Or.inl ⟨by rfl, ?_⟩) hHeld ?_ ?_
              rotate_left
              · rintro w' ⟨s0, s1, s2, s3, s4, s5, s6⟩
                go_simp
                with_reducible rfl
              rotate_left
              · simp only [Act.put, List.setIfInBounds_toArray, List.set_cons_zero, List.set_cons_succ, i64_w, i32_w]
                rfl
              refine take_ (i := 17) (N := some 58) (v := ?_) (a' := ?_) #[true, true, false, false, false, false, false, false, false, false, false, false, false, false, false, true, true, true, false, false, false, false, false] rfl rfl (by kernel_rfl) (fun _ _ _ h => h) (Or.inl ⟨by rfl, ?_⟩) hHeld ?_ ?_
              rotate_left
              · rintro w' ⟨s0, s1, s2, s3, s4, s5, s6⟩
                go_simp
                with_reducible rfl
              rotate_left
              · simp only [Act.put, List.setIfInBounds_toArray, List.set_cons_zero, List.set_cons_succ, i64_w, i32_w]
                rfl
              refine pure_ (i := 18) (N := some 59) (v := ?_) (a' := ?_) #[true, true, false, false, false, false, false, false, false, false, false, false, false, false, false, true, true, true, true, false, false, false, false] rfl rfl (by kernel_rfl) (fun _ _ _ h => h) (Or.inl ⟨by rfl, ?_⟩) ?_ ?_
              rotate_left
              · intro w'
                go_simp
                with_reducible rfl
              rotate_left
              · simp only [Act.put, List.setIfInBounds_toArray, List.set_cons_zero, List.set_cons_succ, i64_w, i32_w]
                rfl
              refine one_ (i := 2) (N := some 43) #[true, true, true, false, false, false, false, false, false, false, false, false, false, false, false, true, true, true, true, false, false, false, false] rfl rfl (by kernel_rfl) (by decide) (fun K hK => ?_)
              refine goes_ Tryz.func122 (by kernel_rfl) rfl #[.int .i64 p.f0, .int .i64 65535] (by rfl) rfl rfl (by simp only [List.map_toArray, List.map_cons, List.map_nil]; rfl) ?_
              with_reducible refine (cF _).mono ?_
              rintro e w3 ⟨rfl, hb⟩
              refine ⟨_, rfl, ?_⟩
              refine hK.out _ _ (PS_later HO.out HQ.out hHeld hb.below) (fun hNow => ?_)
              clear hK K hHeld
              have hHeld := hNow
              clear hNow
              refine norm_ (a' := ?_) ?_ ?_
              rotate_left
              · show Act.put _ (some 43) _ = _
                simp only [Act.put, List.setIfInBounds_toArray, List.set_cons_zero, List.set_cons_succ, i64_w, i32_w]
                rfl
              refine pure_ (i := 3) (N := some 44) (v := ?_) (a' := ?_) #[true, true, true, true, false, false, false, false, false, false, false, false, false, false, false, true, true, true, true, false, false, false, false] rfl rfl (by kernel_rfl) (fun _ _ _ h => h) (Or.inl ⟨by rfl, ?_⟩) ?_ ?_
              rotate_left
              · intro w'
                go_simp
                with_reducible rfl
              rotate_left
              · simp only [Act.put, List.setIfInBounds_toArray, List.set_cons_zero, List.set_cons_succ, i64_w, i32_w]
                rfl
              refine pure_ (i := 4) (N := some 45) (v := ?_) (a' := ?_) #[true, true, true, true, true, false, false, false, false, false, false, false, false, false, false, true, true, true, true, false, false, false, false] rfl rfl (by kernel_rfl) (fun _ _ _ h => h) (Or.inl ⟨by rfl, ?_⟩) ?_ ?_
              rotate_left
              · intro w'
                go_simp
                with_reducible rfl
              rotate_left
              · simp only [Act.put, List.setIfInBounds_toArray, List.set_cons_zero, List.set_cons_succ, i64_w, i32_w]
                rfl
              refine pure_ (i := 5) (N := some 46) (v := ?_) (a' := ?_) #[true, true, true, true, true, true, false, false, false, false, false, false, false, false, false, true, true, true, true, false, false, false, false] rfl rfl (by kernel_rfl) (fun _ _ _ h => h) (Or.inl ⟨by rfl, ?_⟩) ?_ ?_
              rotate_left
              · intro w'
                go_simp
                with_reducible rfl
              rotate_left
              · simp only [Act.put, List.setIfInBounds_toArray, List.set_cons_zero, List.set_cons_succ, i64_w, i32_w]
                rfl
              refine take_ (i := 6) (N := some 47) (v := ?_) (a' := ?_) #[true, true, true, true, true, true, true, false, false, false, false, false, false, false, false, true, true, true, true, false, false, false, false] rfl rfl (by kernel_rfl) (fun _ _ _ h => h) (Or.inl ⟨by rfl, ?_⟩) hHeld ?_ ?_
              rotate_left
              · rintro w' ⟨s0, s1, s2, s3, s4, s5, s6⟩
                go_simp
                with_reducible rfl
              rotate_left
              · simp only [Act.put, List.setIfInBounds_toArray, List.set_cons_zero, List.set_cons_succ, i64_w, i32_w]
                rfl
              refine pure_ (i := 7) (N := some 48) (v := ?_) (a' := ?_) #[true, true, true, true, true, true, true, true, false, false, false, false, false, false, false, true, true, true, true, false, false, false, false] rfl rfl (by kernel_rfl) (fun _ _ _ h => h) (Or.inl ⟨by rfl, ?_⟩) ?_ ?_
              rotate_left
              · intro w'
                go_simp
                with_reducible rfl
              rotate_left
              · simp only [Act.put, List.setIfInBounds_toArray, List.set_cons_zero, List.set_cons_succ, i64_w, i32_w]
                rfl
              refine pure_ (i := 8) (N := some 49) (v := ?_) (a' := ?_) #[true, true, true, true, true, true, true, true, true, false, false, false, false, false, false, true, true, true, true, false, false, false, false] rfl rfl (by kernel_rfl) (fun _ _ _ h => h) (Or.inl ⟨by rfl, ?_⟩) ?_ ?_
              rotate_left
              · intro w'
                go_simp
                with_reducible rfl
              rotate_left
              · simp only [Act.put, List.setIfInBounds_toArray, List.set_cons_zero, List.set_cons_succ, i64_w, i32_w]
                rfl
              refine pure_ (i := 9) (N := some 50) (v := ?_) (a' := ?_) #[true, true, true, true, true, true, true, true, true, true, false, false, false, false, false, true, true, true, true, false, false, false, false] rfl rfl (by kernel_rfl) (fun _ _ _ h => h) (Or.inl ⟨by rfl, ?_⟩) ?_ ?_
              rotate_left
              · intro w'
                go_simp
                with_reducible rfl
              rotate_left
              · simp only [Act.put, List.setIfInBounds_toArray, List.set_cons_zero, List.set_cons_succ, i64_w, i32_w]
                rfl
              refine take_ (i := 10) (N := some 51) (v := ?_) (a' := ?_) #[true, true, true, true, true, true, true, true, true, true, true, false, false, false, false, true, true, true, true, false, false, false, false] rfl rfl (by kernel_rfl) (fun _ _ _ h => h) (Or.inl ⟨by rfl, ?_⟩) hHeld ?_ ?_
              rotate_left
              · rintro w' ⟨s0, s1, s2, s3, s4, s5, s6⟩
                go_simp
                with_reducible rfl
              rotate_left
              · simp only [Act.put, List.setIfInBounds_toArray, List.set_cons_zero, List.set_cons_succ, i64_w, i32_w]
                rfl
              refine pure_ (i := 11) (N := some 52) (v := ?_) (a' := ?_) #[true, true, true, true, true, true, true, true, true, true, true, true, false, false, false, true, true, true, true, false, false, false, false] rfl rfl (by kernel_rfl) (fun _ _ _ h => h) (Or.inl ⟨by rfl, ?_⟩) ?_ ?_
              rotate_left
              · intro w'
                go_simp
                with_reducible rfl
              rotate_left
              · simp only [Act.put, List.setIfInBounds_toArray, List.set_cons_zero, List.set_cons_succ, i64_w, i32_w]
                rfl
              refine pure_ (i := 12) (N := some 53) (v := ?_) (a' := ?_) #[true, true, true, true, true, true, true, true, true, true, true, true, true, false, false, true, true, true, true, false, false, false, false] rfl rfl (by kernel_rfl) (fun _ _ _ h => h) (Or.inl ⟨by rfl, ?_⟩) ?_ ?_
              rotate_left
              · intro w'
                go_simp
                with_reducible rfl
              rotate_left
              · simp only [Act.put, List.setIfInBounds_toArray, List.set_cons_zero, List.set_cons_succ, i64_w, i32_w]
                rfl
              refine pure_ (i := 13) (N := some 54) (v := ?_) (a' := ?_) #[true, true, true, true, true, true, true, true, true, true, true, true, true, true, false, true, true, true, true, false, false, false, false] rfl rfl (by kernel_rfl) (fun _ _ _ h => h) (Or.inl ⟨by rfl, ?_⟩) ?_ ?_
              rotate_left
              · intro w'
                go_simp
                with_reducible rfl
              rotate_left
              · simp only [Act.put, List.setIfInBounds_toArray, List.set_cons_zero, List.set_cons_succ, i64_w, i32_w]
                rfl
              refine one_ (i := 14) (N := some 55) #[true, true, true, true, true, true, true, true, true, true, true, true, true, true, true, true, true, true, true, false, false, false, false] rfl rfl (by kernel_rfl) (by decide) (fun K hK => ?_)
              refine goes_ Tryz.func121 (by kernel_rfl) rfl #[.bool false, .int .i64 7] (by rfl) rfl rfl (by simp only [List.map_toArray, List.map_cons, List.map_nil]; rfl) ?_
              with_reducible refine (cW1 _).mono ?_
              rintro e w4 ⟨rfl, hb⟩
              refine ⟨_, rfl, ?_⟩
              refine hK.out _ _ (PS_later HO.out HQ.out hHeld hb.below) (fun hNow => ?_)
              clear hK K hHeld
              have hHeld := hNow
              clear hNow
              refine norm_ (a' := ?_) ?_ ?_
              rotate_left
              · show Act.put _ (some 55) _ = _
                simp only [Act.put, List.setIfInBounds_toArray, List.set_cons_zero, List.set_cons_succ, i64_w, i32_w]
                rfl
              refine one_ (i := 19) (N := some 60) #[true, true, true, true, true, true, true, true, true, true, true, true, true, true, true, true, true, true, true, true, false, false, false] rfl rfl (by kernel_rfl) (by decide) (fun K hK => ?_)
              refine goes_ Tryz.func121 (by kernel_rfl) rfl #[.bool (decide ((1 : Int) < (cn : Int) + 1)), .int .i64 8] (by rfl) rfl rfl (by simp only [List.map_toArray, List.map_cons, List.map_nil]; rfl) ?_
              with_reducible refine (cW2 _).mono ?_
              rintro e w5 ⟨rfl, hb⟩
              refine ⟨_, rfl, ?_⟩
              refine hK.out _ _ (PS_later HO.out HQ.out hHeld hb.below) (fun hNow => ?_)
              clear hK K hHeld
              have hHeld := hNow
              clear hNow
              refine norm_ (a' := ?_) ?_ ?_
              rotate_left
              · show Act.put _ (some 60) _ = _
                simp only [Act.put, List.setIfInBounds_toArray, List.set_cons_zero, List.set_cons_succ, i64_w, i32_w]
                rfl
              refine one_ (i := 20) (N := some 61) #[true, true, true, true, true, true, true, true, true, true, true, true, true, true, true, true, true, true, true, true, true, false, false] rfl rfl (by kernel_rfl) (by decide) (fun K hK => ?_)
              refine value_ (w1 := ?_) (v := ?_) (by rfl) rfl ?_ ?_
              rotate_left 2
              · go_simp
                constructor
                · rfl
                · rfl
              refine hK.out _ _ (PS_later HO.out HQ.out hHeld ((Below.refl _ _).alloc (Nat.le_refl _) _)) (fun hNow => ?_)
              clear hK K hHeld
              have hHeld := hNow
              clear hNow
              refine norm_ (a' := ?_) ?_ ?_
              rotate_left
              · show Act.put _ (some 61) _ = _
                simp only [Act.put, List.setIfInBounds_toArray, List.set_cons_zero, List.set_cons_succ, i64_w, i32_w]
                rfl
              refine one_ (i := 21) (N := some 62) #[true, true, true, true, true, true, true, true, true, true, true, true, true, true, true, true, true, true, true, true, true, true, false] rfl rfl (by kernel_rfl) (by decide) (fun K hK => ?_)
              refine goes_ Tryz.func120 (by kernel_rfl) rfl #[.slice (some ⟨_, 0, none⟩) 2 2] (by rfl) rfl rfl (by simp only [List.map_toArray, List.map_cons, List.map_nil]; rfl) ?_
              with_reducible refine (cFirst2 _ _ _ _ 29 HR.out).mono ?_
              rintro e w6 ⟨rfl, hb⟩
              refine ⟨_, rfl, ?_⟩
              refine hK.out _ _ (PS_later HO.out HQ.out hHeld hb.below) (fun hNow => ?_)
              clear hK K hHeld
              have hHeld := hNow
              clear hNow
              refine norm_ (a' := ?_) ?_ ?_
              rotate_left
              · show Act.put _ (some 62) _ = _
                simp only [Act.put, List.setIfInBounds_toArray, List.set_cons_zero, List.set_cons_succ, i64_w, i32_w]
                rfl
              refine pure_ (i := 22) (N := some 9) (v := ?_) (a' := ?_) #[true, true, true, true, true, true, true, true, true, true, true, true, true, true, true, true, true, true, true, true, true, true, true] rfl rfl (by kernel_rfl) (fun _ _ _ h => h) (Or.inl ⟨by rfl, ?_⟩) ?_ ?_
              rotate_left
              · intro w'
                go_simp
                with_reducible rfl
              rotate_left
              · simp only [Act.put, List.setIfInBounds_toArray, List.set_cons_zero, List.set_cons_succ, i64_w, i32_w]
                rfl
              refine done_ (by kernel_rfl) ?_
              clear cF cW1 cW2 HR HS HQ HO hcnt hmb
              by_cases h0 : v2 = 0
              · have hE9 := HE8.out
                rw [if_pos h0] at hE9
                have HE9 := Aside0.mk hE9
                clear hE9 HE8
                subst h0
                have HC9 := Aside0.mk hHeld.2.2.2.1
                have HX9 := Aside0.mk hHeld.2.2.2.2.2.1
                have HB9 := Aside0.mk hHeld.2.2.2.2.2.2
                clear hHeld
                go_wp2_with fail
                have hw1 : wrap64 ((j : Int) + 1) = ((j + 1 : Nat) : Int) := by unfold wrap64; omega
                go_roundw
                case rel => exact ⟨j + 1, by simp [hw1], hlt3, HE9, HC9, HX9, HB9⟩
                case measure => simp [intOf, hw1]; omega
              · have hz0 : (v2 == 0) = false := beq_eq_false_iff_ne.2 h0
                have hz1 : (v2 != 0) = true := bne_iff_ne.2 h0
                have hE9 := HE8.out
                rw [if_neg h0] at hE9
                have HF9 := Aside0.mk (show partsP l2 l3 l6 = v2 from by rw [HF.out, ← hE9]; unfold orP; rw [if_neg h0])
                clear hE9 HE8 h0
                have HB9 := Aside0.mk hHeld.2.2.2.2.2.2
                clear hHeld
                go_wp2_with fail
                go_ret
                exact ⟨by rw [HF9.out]; rfl, HB9.out⟩
        · have hlt4 : ¬ (j : Int) < (l3.length : Int) := by omega
          have hz : portsP [] l3 = 0 := by rw [← HE3.out, List.drop_of_length_le (by omega)]; rfl
          have HF6 := Aside0.mk (show partsP l2 l3 l6 = envP [] l6 from by rw [HF.out]; unfold orP; rw [if_pos hz])
          clear HE3 hz H3 S3 HF HC
          have hmm := @run_makeMap Tryz.prog
          have hbm := (Below.refl wr.heap.size wr).alloc (Nat.le_refl _) (.map #[] 0)
          have HXm := Aside0.mk (HX.out.later hbm)
          have HBm := Aside0.mk (below_step HB.out hbm)
          have HCm := Aside0.mk (Cnt.start (K := 9) (kl := klS) (ok := okS) wr)
          have HLm2 := Aside0.mk HX.out.lt
          have cx6 := HXm.out.c6
          clear hbm HX HB HLm
          go_wp2_with fail
          generalize hmb : wr.heap.size = mb at HCm HLm2 ⊢
          generalize wr.alloc (.map #[] 0) = W1 at HXm HBm HCm cx6 ⊢
          clear cx6 hmb hmm HXm
          go_loopw [71] (fun v71 wr => ∃ j : Nat, v71 = .int .i64 (j : Int) ∧ j ≤ l6.length ∧ Aside0 (envP ((l6.take j).map S161.f0) (l6.drop j) = envP [] l6) ∧ Aside0 (Cnt 9 klS okS mb j ((l6.take j).map S161.f0) wr) ∧ Aside0 (Below w.heap.size w wr)) (fun v71 _ => l6.length - (intOf v71).toNat)
          case atStart => exact ⟨0, rfl, Nat.zero_le _, Aside0.mk rfl, HCm, HBm⟩
          case round =>
            clear HBm HCm
            obtain ⟨j, rfl, hj, HE3, HC, HB⟩ := hrel
            by_cases hlt6 : j < l6.length
            · have hlt7 : (j : Int) < (l6.length : Int) := by omega
              have hj0 : (0 : Int) ≤ (j : Int) := by omega
              obtain ⟨ad, ea, hcell0, hcell1⟩ := at_T161 (Kd.C_below H6.out HB.out) (j : Int) hj0 hlt7
              subst ea
              rw [Int.toNat_natCast] at hcell0 hcell1
              have hrd : rd_T161 l6 (j : Int) = l6[j] := by simp [rd_T161, List.getD, List.getElem?_eq_getElem hlt6]
              have hok := S6.out _ (List.getElem_mem hlt6)
              rw [← hrd] at hok
              have hE4 : envP ((l6.take j).map S161.f0) (l6.drop j) = if envE ((l6.take j).map S161.f0) (rd_T161 l6 (j : Int)) = 0 then envP ((l6.take (j + 1)).map S161.f0) (l6.drop (j + 1)) else envE ((l6.take j).map S161.f0) (rd_T161 l6 (j : Int)) := by
                rw [List.drop_eq_getElem_cons hlt6, hrd, List.take_succ_eq_append_getElem hlt6, List.map_append]; rfl
              have htk : (l6.take (j + 1)).map S161.f0 = (l6.take j).map S161.f0 ++ [(rd_T161 l6 (j : Int)).f0] := by rw [hrd, List.take_succ_eq_append_getElem hlt6, List.map_append]; rfl
              have HPE := Aside0.mk (show envE ((l6.take j).map S161.f0) (rd_T161 l6 (j : Int)) = if varP (rd_T161 l6 (j : Int)).f0 then (if 0 < cntOf ((l6.take j).map S161.f0) (rd_T161 l6 (j : Int)).f0 then 8 else textP (rd_T161 l6 (j : Int)).f1) else 13 from rfl)
              clear hrd
              generalize rd_T161 l6 (j : Int) = q at hcell0 hcell1 hok hE4 htk HPE ⊢
              have HK := Aside0.mk htk
              clear htk
              replace HE3 := Aside0.mk (hE4.symm.trans HE3.out)
              clear hE4
              have hba := (Below.refl wr.heap.size wr).alloc (Nat.le_refl _) (.cells #[.string q.f0, .string q.f1] 161)
              have hcA0 : (wr.alloc (.cells #[.string q.f0, .string q.f1] 161)).cell? ⟨wr.heap.size, 0, none⟩ = some (.string q.f0) := (newCell wr #[.string q.f0, .string q.f1] 161 0 _ rfl).1
              have hcB0 : (wr.alloc (.cells #[.string q.f0, .string q.f1] 161)).cell? ⟨wr.heap.size, 1, none⟩ = some (.string q.f1) := (newCell wr #[.string q.f0, .string q.f1] 161 1 _ rfl).1
              have hpb : wr.heap.size < (wr.alloc (.cells #[.string q.f0, .string q.f1] 161)).heap.size := by simp
              have HC2 := HC.out.later hba
              have HB2 := Aside0.mk (below_step HB.out hba)
              have hmb : mb < wr.heap.size := HC.out.lt
              have hokq : okS q.f0 := Nat.le_trans hok.1 (by unfold maxLen; omega)
              have hcnt : cntOf ((l6.take j).map S161.f0) q.f0 ≤ j := Nat.le_trans (cntOf_le _ _) (by rw [List.length_map, List.length_take]; omega)
              have hlk0 := HC2.look lawS hokq
              obtain ⟨w2, hup, hC3, hg2⟩ := HC2.update lawS isKeyS (by unfold maxLen; omega) hokq rfl (WalkArith.wf_i64 (by omega))
              have HCN := Aside0.mk (show cntOf ((l6.take (j + 1)).map S161.f0) q.f0 = cntOf ((l6.take j).map S161.f0) q.f0 + 1 from by rw [HK.out, count_snoc, if_pos rfl])
              replace hC3 : Cnt 9 klS okS mb (j + 1) ((l6.take (j + 1)).map S161.f0) w2 := HK.out ▸ hC3
              generalize cntOf ((l6.take j).map S161.f0) q.f0 = cn at hcnt hlk0 hup HCN HPE
              have hwc : wrap64 ((cn : Int) + 1) = (cn : Int) + 1 := by unfold wrap64; omega
              have HG2 := Aside0.mk hg2
              have HC4 := Aside0.mk hC3
              have hcA2 : w2.cell? ⟨wr.heap.size, 0, none⟩ = some (.string q.f0) := hg2.cell hcA0 (by simp; omega)
              have hcB2 : w2.cell? ⟨wr.heap.size, 1, none⟩ = some (.string q.f1) := hg2.cell hcB0 (by simp; omega)
              have hpb2 : wr.heap.size < w2.heap.size := Nat.lt_of_lt_of_le hpb hg2.size
              have HB3 := Aside0.mk (HB2.out.grown hg2 HB2.out.size (fun k e => by cases e; have := HLm2.out; omega))
              have HA2 := Aside0.mk hcA2
              have HA3 := Aside0.mk hcB2
              clear hg2 hC3 HC2 hba hmb hcA2 hcB2 hpb
              go_wp2_with fail
              clear hup hlk0 hcA0 hcB0 hcell0 hcell1 HC HB HB2 HG2
              generalize wr.heap.size = pb at HA2 HA3 hpb2 ⊢
              have hd2 : Below w2.heap.size w2 w2.drew := ⟨rfl, rfl, rfl, Nat.le_refl _, fun _ _ => rfl⟩
              have hlk2 : (Instr.lookup 198 (.map (some mb)) (.string q.f0) false).run Tryz.prog w2.drew = .ok (.int .i64 ((cn : Int) + 1)) w2.drew := by
                have := (HC4.out.later hd2).look lawS hokq
                rw [HCN.out] at this
                exact this
              have HS := Aside0.mk (And.intro (show w2.drew.cell? ⟨pb, 0, none⟩ = some (.string q.f0) from HA2.out) (And.intro (show w2.drew.cell? ⟨pb, 1, none⟩ = some (.string q.f1) from HA3.out) (And.intro hlk2 (And.intro (HC4.out.later hd2) (And.intro (show pb < w2.drew.heap.size from hpb2) (And.intro ((HT.out.below HB3.out).below hd2) (below_step HB3.out hd2)))))))
              have HQ := Aside0.mk (show ((cntOf ((l6.take (j + 1)).map S161.f0) q.f0 : Nat) : Int) = (cn : Int) + 1 from by rw [HCN.out]; omega)
              have HO := Aside0.mk hokq
              have HZ := Aside0.mk hok
              clear hlk2 hd2 hokq hpb2 HA2 HA3 HC4 HB3 HCN hwc hok
              obtain ⟨v1, hv1⟩ : ∃ v1 : Int, v1 = if !varP q.f0 then 13 else 0 := ⟨_, rfl⟩
              obtain ⟨v2, hv2⟩ : ∃ v2 : Int, v2 = if decide ((1 : Int) < (cn : Int) + 1) then 8 else 0 := ⟨_, rfl⟩
              obtain ⟨v3, hv3⟩ : ∃ v3 : Int, v3 = textP q.f1 := ⟨_, rfl⟩
              obtain ⟨r, hr⟩ : ∃ r : Int, r = if v1 = 0 then (if v2 = 0 then v3 else v2) else v1 := ⟨_, rfl⟩
              have HR := Aside0.mk (first3 v1 v2 v3 6 (by omega))
              rw [← hr] at HR
              have hE : envE ((l6.take j).map S161.f0) q = r := by
                rw [HPE.out, hr, hv1, hv2, hv3]
                cases varP q.f0 with
                | false => rfl
                | true =>
                  by_cases h0 : 0 < cn
                  · have h1 : decide ((1 : Int) < (cn : Int) + 1) = true := by rw [decide_eq_true_eq]; omega
                    simp [h0, h1]
                  · have h1 : decide ((1 : Int) < (cn : Int) + 1) = false := by rw [decide_eq_false_iff_not]; omega
                    simp [h0, h1]
              have hE8 := HE3.out
              rw [hE] at hE8
              have HE8 := Aside0.mk hE8
              have cV := fun W => cVar q.f0 W HZ.out.1
              have cW1 := fun W => cWhen (!varP q.f0) 13 W
              have cW2 := fun W => cWhen (decide ((1 : Int) < (cn : Int) + 1)) 8 W
              have cT := fun W (hT : Tabs W) => spec_text.calls q.f1 W hT HZ.out.2
              rw [← hv1] at cW1
              rw [← hv2] at cW2
              rw [← hv3] at cT
              generalize varP q.f0 = bv at cV cW1
              clear hE hE8 HE3 HPE hv1 hv2 hv3 hr
              refine start_ (n := 17) (S := fun w' => w'.cell? ⟨pb, 0, none⟩ = some (.string q.f0) ∧ w'.cell? ⟨pb, 1, none⟩ = some (.string q.f1) ∧ (Instr.lookup 198 (.map (some mb)) (.string q.f0) false).run Tryz.prog w' = .ok (.int .i64 ((cn : Int) + 1)) w' ∧ Cnt 9 klS okS mb (j + 1) ((l6.take (j + 1)).map S161.f0) w' ∧ pb < w'.heap.size ∧ Tabs w' ∧ Below w.heap.size w w') (ds := []) #[false, false, false, false, false, false, false, false, false, false, false, false, false, false, false, false, false] (by kernel_rfl) rfl rfl (HS.out) (fun hHeld => ?_)
              refine pure_ (i := 0) (N := some 80) (v := ?_) (a' := ?_) #[true, false, false, false, false, false, false, false, false, false, false, false, false, false, false, false, false] rfl rfl (by kernel_rfl) (fun _ _ _ h => h) (Or.inl ⟨by rfl, ?_⟩) ?_ ?_
              rotate_left
              · intro w'
                go_simp
                with_reducible rfl
              rotate_left
              · simp only [Act.put, List.setIfInBounds_toArray, List.set_cons_zero, List.set_cons_succ, i64_w, i32_w]
                rfl
              refine pure_ (i := 5) (N := some 85) (v := ?_) (a' := ?_) #[true, false, false, false, false, true, false, false, false, false, false, false, false, false, false, false, false] rfl rfl (by kernel_rfl) (fun _ _ _ h => h) (Or.inl ⟨by rfl, ?_⟩) ?_ ?_
              rotate_left
              · intro w'
                go_simp
                with_reducible rfl
              rotate_left
              · simp only [Act.put, List.setIfInBounds_toArray, List.set_cons_zero, List.set_cons_succ, i64_w, i32_w]
                rfl
              refine pure_ (i := 6) (N := some 86) (v := ?_) (a' := ?_) #[true, false, false, false, false, true, true, false, false, false, false, false, false, false, false, false, false] rfl rfl (by kernel_rfl) (fun _ _ _ h => h) (Or.inl ⟨by rfl, ?_⟩) ?_ ?_
              rotate_left
              · intro w'
                go_simp
                with_reducible rfl
              rotate_left
              · simp only [Act.put, List.setIfInBounds_toArray, List.set_cons_zero, List.set_cons_succ, i64_w, i32_w]
                rfl
              refine pure_ (i := 11) (N := some 91) (v := ?_) (a' := ?_) #[true, false, false, false, false, true, true, false, false, false, false, true, false, false, false, false, false] rfl rfl (by kernel_rfl) (fun _ _ _ h => h) (Or.inl ⟨by rfl, ?_⟩) ?_ ?_
              rotate_left
              · intro w'
                go_simp
                with_reducible rfl
              rotate_left
              · simp only [Act.put, List.setIfInBounds_toArray, List.set_cons_zero, List.set_cons_succ, i64_w, i32_w]
                rfl
              refine take_ (i := 1) (N := some 81) (v := ?_) (a' := ?_) #[true, true, false, false, false, true, true, false, false, false, false, true, false, false, false, false, false] rfl rfl (by kernel_rfl) (fun _ _ _ h => h) (Or.inl ⟨by rfl, ?_⟩) hHeld ?_ ?_
              rotate_left
              · rintro w' ⟨s0, s1, s2, s3, s4, s5, s6⟩
                go_simp
                with_reducible rfl
              rotate_left
              · simp only [Act.put, List.setIfInBounds_toArray, List.set_cons_zero, List.set_cons_succ, i64_w, i32_w]
                rfl
              refine take_ (i := 7) (N := some 87) (v := ?_) (a' := ?_) #[true, true, false, false, false, true, true, true, false, false, false, true, false, false, false, false, false] rfl rfl (by kernel_rfl) (fun _ _ _ h => h) (Or.inl ⟨by rfl, ?_⟩) hHeld ?_ ?_
              rotate_left
              · rintro w' ⟨s0, s1, s2, s3, s4, s5, s6⟩
                go_simp
                with_reducible rfl
              rotate_left
              · simp only [Act.put, List.setIfInBounds_toArray, List.set_cons_zero, List.set_cons_succ, i64_w, i32_w]
                rfl
              refine take_ (i := 8) (N := some 88) (v := ?_) (a' := ?_) #[true, true, false, false, false, true, true, true, true, false, false, true, false, false, false, false, false] rfl rfl (by kernel_rfl) (fun _ _ _ h => h) (Or.inl ⟨by rfl, ?_⟩) hHeld ?_ ?_
              rotate_left
              · rintro w' ⟨s0, s1, s2, s3, s4, s5, s6⟩
                go_simp
                with_reducible rfl
              rotate_left
              · simp only [Act.put, List.setIfInBounds_toArray, List.set_cons_zero, List.set_cons_succ, i64_w, i32_w]
                rfl
              refine pure_ (i := 9) (N := some 89) (v := ?_) (a' := ?_) #[true, true, false, false, false, true, true, true, true, true, false, true, false, false, false, false, false] rfl rfl (by kernel_rfl) (fun _ _ _ h => h) (Or.inl ⟨by rfl, ?_⟩) ?_ ?_
              rotate_left
              · intro w'
                go_simp
                with_reducible rfl
              rotate_left
              · simp only [Act.put, List.setIfInBounds_toArray, List.set_cons_zero, List.set_cons_succ, i64_w, i32_w]
                rfl
              refine take_ (i := 12) (N := some 92) (v := ?_) (a' := ?_) #[true, true, false, false, false, true, true, true, true, true, false, true, true, false, false, false, false] rfl rfl (by kernel_rfl) (fun _ _ _ h => h) (Or.inl ⟨by rfl, ?_⟩) hHeld ?_ ?_
              rotate_left
              · rintro w' ⟨s0, s1, s2, s3, s4, s5, s6⟩
                go_simp
                with_reducible rfl
              rotate_left
              · simp only [Act.put, List.setIfInBounds_toArray, List.set_cons_zero, List.set_cons_succ, i64_w, i32_w]
                rfl
              refine one_ (i := 2) (N := some 82) #[true, true, true, false, false, true, true, true, true, true, false, true, true, false, false, false, false] rfl rfl (by kernel_rfl) (by decide) (fun K hK => ?_)
              refine goes_ Tryz.func110 (by kernel_rfl) rfl #[.string q.f0] (by rfl) rfl rfl (by simp only [List.map_toArray, List.map_cons, List.map_nil]; rfl) ?_
              with_reducible refine (cV _).mono ?_
              rintro e w3 ⟨rfl, hb⟩
              refine ⟨_, rfl, ?_⟩
              refine hK.out _ _ (PE_later HO.out HQ.out hHeld hb) (fun hNow => ?_)
              clear hK K hHeld
              have hHeld := hNow
              clear hNow
              refine norm_ (a' := ?_) ?_ ?_
              rotate_left
              · show Act.put _ (some 82) _ = _
                simp only [Act.put, List.setIfInBounds_toArray, List.set_cons_zero, List.set_cons_succ, i64_w, i32_w]
                rfl
              refine pure_ (i := 3) (N := some 83) (v := ?_) (a' := ?_) #[true, true, true, true, false, true, true, true, true, true, false, true, true, false, false, false, false] rfl rfl (by kernel_rfl) (fun _ _ _ h => h) (Or.inl ⟨by rfl, ?_⟩) ?_ ?_
              rotate_left
              · intro w'
                go_simp
                with_reducible rfl
              rotate_left
              · simp only [Act.put, List.setIfInBounds_toArray, List.set_cons_zero, List.set_cons_succ, i64_w, i32_w]
                rfl
              refine one_ (i := 4) (N := some 84) #[true, true, true, true, true, true, true, true, true, true, false, true, true, false, false, false, false] rfl rfl (by kernel_rfl) (by decide) (fun K hK => ?_)
              refine goes_ Tryz.func121 (by kernel_rfl) rfl #[.bool (!bv), .int .i64 13] (by rfl) rfl rfl (by simp only [List.map_toArray, List.map_cons, List.map_nil]; rfl) ?_
              with_reducible refine (cW1 _).mono ?_
              rintro e w4 ⟨rfl, hb⟩
              refine ⟨_, rfl, ?_⟩
              refine hK.out _ _ (PE_later HO.out HQ.out hHeld hb.below) (fun hNow => ?_)
              clear hK K hHeld
              have hHeld := hNow
              clear hNow
              refine norm_ (a' := ?_) ?_ ?_
              rotate_left
              · show Act.put _ (some 84) _ = _
                simp only [Act.put, List.setIfInBounds_toArray, List.set_cons_zero, List.set_cons_succ, i64_w, i32_w]
                rfl
              refine one_ (i := 10) (N := some 90) #[true, true, true, true, true, true, true, true, true, true, true, true, true, false, false, false, false] rfl rfl (by kernel_rfl) (by decide) (fun K hK => ?_)
              refine goes_ Tryz.func121 (by kernel_rfl) rfl #[.bool (decide ((1 : Int) < (cn : Int) + 1)), .int .i64 8] (by rfl) rfl rfl (by simp only [List.map_toArray, List.map_cons, List.map_nil]; rfl) ?_
              with_reducible refine (cW2 _).mono ?_
              rintro e w5 ⟨rfl, hb⟩
              refine ⟨_, rfl, ?_⟩
              refine hK.out _ _ (PE_later HO.out HQ.out hHeld hb.below) (fun hNow => ?_)
              clear hK K hHeld
              have hHeld := hNow
              clear hNow
              refine norm_ (a' := ?_) ?_ ?_
              rotate_left
              · show Act.put _ (some 90) _ = _
                simp only [Act.put, List.setIfInBounds_toArray, List.set_cons_zero, List.set_cons_succ, i64_w, i32_w]
                rfl
              refine one_ (i := 13) (N := some 93) #[true, true, true, true, true, true, true, true, true, true, true, true, true, true, false, false, false] rfl rfl (by kernel_rfl) (by decide) (fun K hK => ?_)
              refine goes_ Tryz.func142 (by kernel_rfl) rfl #[.string q.f1] (by rfl) rfl rfl (by simp only [List.map_toArray, List.map_cons, List.map_nil]; rfl) ?_
              with_reducible refine (cT _ hHeld.2.2.2.2.2.1).mono ?_
              rintro e w6 ⟨rfl, hb⟩
              refine ⟨_, rfl, ?_⟩
              refine hK.out _ _ (PE_later HO.out HQ.out hHeld hb) (fun hNow => ?_)
              clear hK K hHeld
              have hHeld := hNow
              clear hNow
              refine norm_ (a' := ?_) ?_ ?_
              rotate_left
              · show Act.put _ (some 93) _ = _
                simp only [Act.put, List.setIfInBounds_toArray, List.set_cons_zero, List.set_cons_succ, i64_w, i32_w]
                rfl
              refine one_ (i := 14) (N := some 94) #[true, true, true, true, true, true, true, true, true, true, true, true, true, true, true, false, false] rfl rfl (by kernel_rfl) (by decide) (fun K hK => ?_)
              refine value_ (w1 := ?_) (v := ?_) (by rfl) rfl ?_ ?_
              rotate_left 2
              · go_simp
                constructor
                · rfl
                · rfl
              refine hK.out _ _ (PE_later HO.out HQ.out hHeld ((Below.refl _ _).alloc (Nat.le_refl _) _)) (fun hNow => ?_)
              clear hK K hHeld
              have hHeld := hNow
              clear hNow
              refine norm_ (a' := ?_) ?_ ?_
              rotate_left
              · show Act.put _ (some 94) _ = _
                simp only [Act.put, List.setIfInBounds_toArray, List.set_cons_zero, List.set_cons_succ, i64_w, i32_w]
                rfl
              refine one_ (i := 15) (N := some 95) #[true, true, true, true, true, true, true, true, true, true, true, true, true, true, true, true, false] rfl rfl (by kernel_rfl) (by decide) (fun K hK => ?_)
              refine goes_ Tryz.func120 (by kernel_rfl) rfl #[.slice (some ⟨_, 0, none⟩) 3 3] (by rfl) rfl rfl (by simp only [List.map_toArray, List.map_cons, List.map_nil]; rfl) ?_
              with_reducible refine (cFirst3 _ _ _ _ _ 29 HR.out).mono ?_
              rintro e w7 ⟨rfl, hb⟩
              refine ⟨_, rfl, ?_⟩
              refine hK.out _ _ (PE_later HO.out HQ.out hHeld hb.below) (fun hNow => ?_)
              clear hK K hHeld
              have hHeld := hNow
              clear hNow
              refine norm_ (a' := ?_) ?_ ?_
              rotate_left
              · show Act.put _ (some 95) _ = _
                simp only [Act.put, List.setIfInBounds_toArray, List.set_cons_zero, List.set_cons_succ, i64_w, i32_w]
                rfl
              refine pure_ (i := 16) (N := some 13) (v := ?_) (a' := ?_) #[true, true, true, true, true, true, true, true, true, true, true, true, true, true, true, true, true] rfl rfl (by kernel_rfl) (fun _ _ _ h => h) (Or.inl ⟨by rfl, ?_⟩) ?_ ?_
              rotate_left
              · intro w'
                go_simp
                with_reducible rfl
              rotate_left
              · simp only [Act.put, List.setIfInBounds_toArray, List.set_cons_zero, List.set_cons_succ, i64_w, i32_w]
                rfl
              refine done_ (by kernel_rfl) ?_
              clear cV cW1 cW2 cT HR HS HQ HO HZ hcnt
              by_cases h0 : r = 0
              · have hE9 := HE8.out
                rw [if_pos h0] at hE9
                have HE9 := Aside0.mk hE9
                clear hE9 HE8
                subst h0
                have HC9 := Aside0.mk hHeld.2.2.2.1
                have HB9 := Aside0.mk hHeld.2.2.2.2.2.2
                clear hHeld
                go_wp2_with fail
                have hw1 : wrap64 ((j : Int) + 1) = ((j + 1 : Nat) : Int) := by unfold wrap64; omega
                go_roundw
                case rel => exact ⟨j + 1, by simp [hw1], hlt6, HE9, HC9, HB9⟩
                case measure => simp [intOf, hw1]; omega
              · have hz0 : (r == 0) = false := beq_eq_false_iff_ne.2 h0
                have hz1 : (r != 0) = true := bne_iff_ne.2 h0
                have hE9 := HE8.out
                rw [if_neg h0] at hE9
                have HF9 := Aside0.mk (show partsP l2 l3 l6 = r from by rw [HF6.out, ← hE9])
                clear hE9 HE8 h0
                have HB9 := Aside0.mk hHeld.2.2.2.2.2.2
                clear hHeld
                go_wp2_with fail
                go_ret
                exact ⟨by rw [HF9.out]; rfl, HB9.out⟩
            · have hlt7 : ¬ (j : Int) < (l6.length : Int) := by omega
              have hz : envP [] l6 = 0 := by rw [← HE3.out, List.drop_of_length_le (by omega)]; rfl
              have HF9 := Aside0.mk (HF6.out.trans hz)
              clear HE3 hz HF6 HC
              go_wp2_with fail
              go_ret
              exact ⟨by rw [HF9.out]; rfl, HB.out⟩
end Go.Proofs.YtlmeelmjodjfpaaGreatDoor.PB
