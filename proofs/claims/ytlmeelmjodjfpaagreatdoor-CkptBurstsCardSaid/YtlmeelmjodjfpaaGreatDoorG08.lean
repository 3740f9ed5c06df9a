/- CkptBursts, part 9 of 24 of its proof: for every input that meets the row's condition (laid, tied) the call returns true and each argument reads behind it as before. -/
import Derived.RangeFuncNested
import Derived.RangeFuncBound
import Derived.RangeFuncCalls
import Derived.RangeFuncLeaves
import Derived.Shelf.Abstract
import Derived.Shelf.RegionOpen
import Derived.WalkKit
import Derived.OwnWalkIn
import Derived.TacticsInMore
import Derived.LoopNIn
import Derived.LoopIn
import Derived.Lib.IndexLaws
import Derived.Test.YtlmeelmjodjfpaaGreatDoorG07
namespace Go.Proofs.YtlmeelmjodjfpaaGreatDoor.PB
open Go.RowKit Go.Shelf Go.Proofs.YtlmeelmjodjfpaaGreatDoorW.PrintWords Go.Proofs.YtlmeelmjodjfpaaGreatDoorW.PrintLast Go.Proofs.YtlmeelmjodjfpaaGreatDoorW.PrintMore
set_option linter.unusedVariables false
attribute [local go_sem] Oper.semAt_some
/-- Where the first dot stands. -/
def dotAt (s : ByteArray) : Int := Lib.indexByte s.data.toList 46
theorem dot_cases (s : ByteArray) : dotAt s = -1 ∨ ∃ m : Nat, dotAt s = (m : Int) ∧ m < s.size := by
  unfold dotAt
  rcases Int.lt_or_le (Lib.indexByte s.data.toList 46) 0 with h | h
  · have := Lib.indexByte_ge s.data.toList 46
    exact .inl (by omega)
  · obtain ⟨m, hm⟩ := Int.eq_ofNat_of_zero_le h
    have h2 := (Lib.indexByte_some hm).1
    refine .inr ⟨m, hm, ?_⟩
    obtain ⟨h3, _⟩ := List.getElem?_eq_some_iff.1 h2
    rw [Array.length_toList] at h3; exact h3
def nameF : Nat → ByteArray → Bool
  | 0, _ => false
  | k + 1, s => if dotAt s < 0 then labelP s else labelP (s.extract 0 (dotAt s).toNat) && nameF k (s.extract ((dotAt s).toNat + 1) s.size)
def nameP (s : ByteArray) : Bool := nameF (s.size + 1) s && decide (s.size ≤ 253)
/-- What stands while the names are gone through: the rest, the loop's record, the result. -/
structure NI (w : World) (l : Loop) (rest : ByteArray) (W : World) : Prop where
  size : w.heap.size + 5 < W.heap.size
  hl : W.heap[w.heap.size + 5]? = some (.loop l)
  hk : W.heap[w.heap.size + 4]? = some (.deferred (some []))
  cR : W.cell? ⟨w.heap.size, 0, none⟩ = some (.bool false)
  fR : W.frozen? ⟨w.heap.size, 0, none⟩ = false
  cS : W.cell? ⟨w.heap.size + 1, 0, none⟩ = some (.string rest)
  fS : W.frozen? ⟨w.heap.size + 1, 0, none⟩ = false
  cP : W.cell? ⟨w.heap.size + 2, 0, none⟩ = some (.string ⟨#[46]⟩)
  cQ : W.cell? ⟨w.heap.size + 3, 0, none⟩ = some (.int .i64 0)
  below : Below w.heap.size w W
/-- What stands when a part was no label. -/
structure NX (w : World) (l : Loop) (W : World) : Prop where
  hl : W.heap[w.heap.size + 5]? = some (.loop l)
  hk : W.heap[w.heap.size + 4]? = some (.deferred (some []))
  cR : W.cell? ⟨w.heap.size, 0, none⟩ = some (.bool false)
  below : Below w.heap.size w W
theorem newCell (W : World) (cs : Array Value) (t : TypeId) (j : Nat) (v : Value) (h0 : cs[j]? = some v) : (W.alloc (.cells cs t)).cell? ⟨W.heap.size, j, none⟩ = some v ∧ (W.alloc (.cells cs t)).frozen? ⟨W.heap.size, j, none⟩ = false := by
  have h := World.alloc_heap_new W (.cells cs t)
  constructor
  · simp only [World.cell?, h]; exact h0
  · simp only [World.frozen?, h]; simp
theorem newBox (W : World) (v : Value) (t : TypeId) : (W.alloc (.cells #[v] t)).cell? ⟨W.heap.size, 0, none⟩ = some v ∧ (W.alloc (.cells #[v] t)).frozen? ⟨W.heap.size, 0, none⟩ = false := newCell W #[v] t 0 v rfl
/-- The three boxes of strings.SplitSeq. -/
def boxes3 (s p : ByteArray) (w : World) : World := ((w.alloc (.cells #[.string s] 9)).alloc (.cells #[.string p] 9)).alloc (.cells #[.int .i64 0] 3)
theorem splitSeq_calls (s p : ByteArray) (w : World) :
    Calls Tryz.prog 116 #[.string s, .string p] w fun e w' => e = .returned (.func (.func 150) #[] #[.pointer (some ⟨w.heap.size + 1, 0, none⟩), .pointer (some ⟨w.heap.size, 0, none⟩), .pointer (some ⟨w.heap.size + 2, 0, none⟩)]) ∧ w' = boxes3 s p w := by
  go_enter Tryz.func116, Tryz.ntmps116
  go_wp2_with fail
  refine Calls.mono (R := fun e w' => e = .returned (.func (.func 150) #[] #[.pointer (some ⟨w.heap.size + 1, 0, none⟩), .pointer (some ⟨w.heap.size, 0, none⟩), .pointer (some ⟨w.heap.size + 2, 0, none⟩)]) ∧ w' = boxes3 s p w) ?_ ?_
  · go_enter Tryz.func141, Tryz.ntmps141
    go_wp2_with fail
    go_ret
    exact ⟨by simp, rfl⟩
  · rintro e w1 ⟨rfl, rfl⟩
    go_wp2_with fail
    go_ret
    exact ⟨rfl, rfl⟩
theorem NI.set {w : World} {l : Loop} {r r' : ByteArray} {W : World} (h : NI w l r W) : NI w l r' (W.setCell ⟨w.heap.size + 1, 0, none⟩ (.string r')) := {
  size := by simp; exact h.size
  hl := (Below.heap_setCell W _ _ _ (by simp)).trans h.hl
  hk := (Below.heap_setCell W _ _ _ (by simp)).trans h.hk
  cR := (World.cell?_setCell_far _ _ _ _ (by simp)).trans h.cR
  fR := by rw [World.frozen?_setCell]; exact h.fR
  cS := World.cell?_setCell_same' _ _ _ (by rw [h.cS]; rfl)
  fS := by rw [World.frozen?_setCell]; exact h.fS
  cP := (World.cell?_setCell_far _ _ _ _ (by simp)).trans h.cP
  cQ := (World.cell?_setCell_far _ _ _ _ (by simp)).trans h.cQ
  below := h.below.setCell (p := ⟨w.heap.size + 1, 0, none⟩) (by simp) _ }
set_option maxHeartbeats 1000000 in
theorem split1_in (w : World) (l : Loop) (X : Loop)
    (hround : ∀ (f rest : ByteArray) (W : World), NI w l rest W → f.size ≤ 140737488355328 → YieldAt Fence.wide 2 Tryz.prog (w.heap.size + 5) #[.string f] W fun e W' =>
      (e = .returned (.bool true) ∧ labelP f = true ∧ NI w l rest W') ∨ (e = .returned (.bool false) ∧ labelP f = false ∧ NX w X W')) :
    ∀ (k : Nat) (rest : ByteArray) (W : World), rest.size < k → rest.size ≤ 140737488355328 → NI w l rest W →
    CallsIn Fence.wide 3 Tryz.prog 150 #[.func (.yield (w.heap.size + 5)) #[] #[], .pointer (some ⟨w.heap.size + 2, 0, none⟩), .pointer (some ⟨w.heap.size + 1, 0, none⟩), .pointer (some ⟨w.heap.size + 3, 0, none⟩)] W fun e W' =>
      (∃ v, e = .returned v) ∧ ((nameF k rest = true ∧ ∃ r2, NI w l r2 W') ∨ (nameF k rest = false ∧ NX w X W')) := by
  intro k rest W hk hs hN
  refine callsIn_of_wp Tryz.func150 rfl trivial ?_ rfl
  simp only [Tryz.ntmps150, List.size_toArray, List.length_cons, List.length_nil, Nat.reduceAdd, Nat.reduceSub, Array.replicate_succ, Array.replicate_zero, List.push_toArray, List.append_toArray, List.nil_append, List.cons_append]
  have cS := hN.cS
  have fS := hN.fS
  have cP := hN.cP
  have cQ := hN.cQ
  gi_wp2_with fail
  gi_loopw [7] (fun p wr => ∃ (k2 : Nat) (r : ByteArray), r.size < k2 ∧ r.size ≤ 140737488355328 ∧ Aside0 (nameF k2 r = nameF k rest) ∧ Aside0 (NI w l r wr)) (fun _ wr => match wr.cell? ⟨w.heap.size + 1, 0, none⟩ with | some (.string b) => b.size | _ => 0)
  case atStart => exact ⟨k, rest, hk, hs, Aside0.mk rfl, Aside0.mk hN⟩
  case round =>
    obtain ⟨k2, r, hr1, hr2, hE, hNr⟩ := hrel
    have cS := hNr.out.cS
    have fS := hNr.out.fS
    have cP := hNr.out.cP
    have cQ := hNr.out.cQ
    obtain ⟨k2, rfl⟩ : ∃ m, k2 = m + 1 := ⟨k2 - 1, by omega⟩
    have cI := Tryz.strings_Index_one r 46 wr
    rcases dot_cases r with hd | ⟨m, hd, hm⟩
    · obtain ⟨fn, tmps, assign, body, hy, hR⟩ := hround r r wr hNr.out hr2
      have hE2 : nameF (k2 + 1) r = labelP r := by rw [nameF, hd]; simp
      rw [show Lib.indexByte r.data.toList 46 = -1 from hd] at cI
      have hE := Aside0.mk (hE2.symm.trans hE.out)
      clear hE2 hround
      gi_wp2_with (refine ⟨trivial, ?_⟩; gi_at_call 151; refine (callsIn_wide.2 cI).mono ?_; rintro e w' ⟨rfl, rfl⟩)
      refine hR.mono ?_
      rintro e W' (⟨rfl, hl2, hN'⟩ | ⟨rfl, hl2, hX⟩)
      · have hE := Aside0.mk (hE.out.symm.trans hl2)
        clear hl2
        gi_wp2
        go_end0
        exact ⟨⟨_, rfl⟩, .inl ⟨hE.out, r, hN'⟩⟩
      · have hE := Aside0.mk (hE.out.symm.trans hl2)
        clear hl2
        gi_wp2
        go_end0
        exact ⟨⟨_, rfl⟩, .inr ⟨hE.out, hX⟩⟩
    · obtain ⟨fn, tmps, assign, body, hy, hR⟩ := hround (r.extract 0 m) r wr hNr.out (by rw [ByteArray.size_extract]; omega)
      have hE2 : nameF (k2 + 1) r = (labelP (r.extract 0 m) && nameF k2 (r.extract (m + 1) r.size)) := by rw [nameF, hd, if_neg (by omega), Int.toNat_natCast]
      rw [show Lib.indexByte r.data.toList 46 = (m : Int) from hd] at cI
      have hE := Aside0.mk (hE2.symm.trans hE.out)
      clear hE2 hround hd
      have hm1 : (m : Int) < (r.size : Int) := by omega
      gi_wp2_with (refine ⟨trivial, ?_⟩; gi_at_call 151; refine (callsIn_wide.2 cI).mono ?_; rintro e w' ⟨rfl, rfl⟩)
      refine hR.mono ?_
      rintro e W' (⟨rfl, hl2, hN'⟩ | ⟨rfl, hl2, hX⟩)
      · have hE := Aside0.mk ((show (labelP (r.extract 0 m) && nameF k2 (r.extract (m + 1) r.size)) = nameF k2 (r.extract (m + 1) r.size) from by rw [hl2, Bool.true_and]).symm.trans hE.out)
        clear hl2
        have cS := hN'.cS
        have fS := hN'.fS
        have cP := hN'.cP
        have cQ := hN'.cQ
        have hw9 : wrap64 ((m : Int) + 1) = (m : Int) + 1 := by unfold wrap64; omega
        have hm2 : (m : Int) + 1 ≤ (r.size : Int) := by omega
        gi_wp2
        go_roundw
        case rel => exact ⟨k2, r.extract (m + 1) r.size, by rw [ByteArray.size_extract]; omega, by rw [ByteArray.size_extract]; omega, hE, Aside0.mk (NI.set hN')⟩
        case measure =>
          have e1 := (NI.set hN' (r' := r.extract (m + 1) r.size)).cS
          have e2 := hNr.out.cS
          simp only [e1, e2, ByteArray.size_extract]
          omega
      · have hE := Aside0.mk ((show (labelP (r.extract 0 m) && nameF k2 (r.extract (m + 1) r.size)) = false from by rw [hl2, Bool.false_and]).symm.trans hE.out)
        clear hl2
        gi_wp2
        refine bodyPost_ret (results_none rfl _ _ _) rfl ?_
        exact ⟨⟨_, rfl⟩, .inr ⟨hE.out.symm, hX⟩⟩
theorem NI.begun {w : World} {l l' : Loop} {r : ByteArray} {W : World} (h : NI w l r W) : NI w l' r (W.putObj (w.heap.size + 5) (.loop l')) := {
  size := by rw [World.putObj_size]; exact h.size
  hl := World.putObj_heap_same h.size
  hk := (World.putObj_heap_other (by omega)).trans h.hk
  cR := cell_kept h.cR (grownBy_putObj' W _ _) (fun r e => by cases e; exact ⟨_, h.hl, rfl⟩)
  fR := (frozen_kept h.cR (grownBy_putObj' W _ _) (fun r e => by cases e; exact ⟨_, h.hl, rfl⟩)).trans h.fR
  cS := cell_kept h.cS (grownBy_putObj' W _ _) (fun r e => by cases e; exact ⟨_, h.hl, rfl⟩)
  fS := (frozen_kept h.cS (grownBy_putObj' W _ _) (fun r e => by cases e; exact ⟨_, h.hl, rfl⟩)).trans h.fS
  cP := cell_kept h.cP (grownBy_putObj' W _ _) (fun r e => by cases e; exact ⟨_, h.hl, rfl⟩)
  cQ := cell_kept h.cQ (grownBy_putObj' W _ _) (fun r e => by cases e; exact ⟨_, h.hl, rfl⟩)
  below := h.below.grown (grownBy_putObj' W _ _) (by have := h.size; omega) (fun k e => by cases e; omega) }
theorem NI.later {w : World} {l : Loop} {r : ByteArray} {W W' : World} (h : NI w l r W) (hb : Below W.heap.size W W') : NI w l r W' := {
  size := Nat.lt_of_lt_of_le h.size hb.size
  hl := (hb.block _ h.size).trans h.hl
  hk := (hb.block _ (by have := h.size; omega)).trans h.hk
  cR := (hb.cell (p := ⟨w.heap.size, 0, none⟩) (by have := h.size; simp; omega)).trans h.cR
  fR := (hb.frozen (p := ⟨w.heap.size, 0, none⟩) (by have := h.size; simp; omega)).trans h.fR
  cS := (hb.cell (p := ⟨w.heap.size + 1, 0, none⟩) (by have := h.size; simp; omega)).trans h.cS
  fS := (hb.frozen (p := ⟨w.heap.size + 1, 0, none⟩) (by have := h.size; simp; omega)).trans h.fS
  cP := (hb.cell (p := ⟨w.heap.size + 2, 0, none⟩) (by have := h.size; simp; omega)).trans h.cP
  cQ := (hb.cell (p := ⟨w.heap.size + 3, 0, none⟩) (by have := h.size; simp; omega)).trans h.cQ
  below := below_step h.below hb }
theorem NX.put {w : World} {l l' : Loop} {W : World} (h : NX w l W) (hlt : w.heap.size + 5 < W.heap.size) : NX w l' (W.putObj (w.heap.size + 5) (.loop l')) := {
  hl := World.putObj_heap_same hlt
  hk := (World.putObj_heap_other (by omega)).trans h.hk
  cR := cell_kept h.cR (grownBy_putObj' W _ _) (fun r e => by cases e; exact ⟨_, h.hl, rfl⟩)
  below := h.below.grown (grownBy_putObj' W _ _) (by omega) (fun k e => by cases e; omega) }
theorem NX.of {w : World} {l : Loop} {r : ByteArray} {W : World} (h : NI w l r W) : NX w l (W.setCell ⟨w.heap.size, 0, none⟩ (.bool false)) := {
  hl := (Below.heap_setCell W _ _ _ (by simp)).trans h.hl
  hk := (Below.heap_setCell W _ _ _ (by simp)).trans h.hk
  cR := World.cell?_setCell_same' _ _ _ (by rw [h.cR]; rfl)
  below := h.below.setCell (p := ⟨w.heap.size, 0, none⟩) (by simp) _ }
/-- How a round may be left. -/
def roundOf (w : World) (L : Loop) (x rest : ByteArray) : Exit → Act → World → Prop
  | .normal, _, W' => labelP x = true ∧ NI w L rest W'
  | .ret, _, W' => labelP x = false ∧ NX w L W'
  | _, _, _ => False
/-- The range over strings.SplitSeq in dns.Name: what its rounds owe, and what stands behind it. -/
theorem range_split {g : Operand} {assign body : Code} {Q : Exit → Act → World → Prop} {a : Act} {s : ByteArray} {w Wb : World} (hs : s.size ≤ 140737488355328) (a₁ : ByteArray → Act)
    (hg : a.eval g = .func (.func 150) #[] #[.pointer (some ⟨w.heap.size + 2, 0, none⟩), .pointer (some ⟨w.heap.size + 1, 0, none⟩), .pointer (some ⟨w.heap.size + 3, 0, none⟩)])
    (hsz : Wb.heap.size = w.heap.size + 4) (hstart : ∀ L : Loop, NI w L s ((Wb.alloc (.deferred (some []))).alloc (.loop L)))
    (hassign : ∀ (l : Nat) (x : ByteArray) (W : World) (K : Act → World → Prop), K (a₁ x) W →
      assign.wpIn (Fence.wide.inRound l) 2 Tryz.prog (Exit.then K (fun _ _ _ => False)) { tmps := a.tmps.setIfInBounds 6 (.string x), defers := [] } W)
    (hbody : ∀ (l : Nat) (L : Loop) (x rest : ByteArray) (W : World), NI w L rest W → x.size ≤ 140737488355328 → body.wpIn (Fence.wide.inRound l) 2 Tryz.prog (roundOf w L x rest) (a₁ x) W)
    (hdone : ∀ (L : Loop) (r : ByteArray) (W : World), nameF (s.size + 1) s = true → NI w L r W → Q .normal { a with defers := { target := .collected (w.heap.size + 4), args := #[] } :: a.defers } W)
    (hstop : ∀ (L : Loop) (W : World), nameF (s.size + 1) s = false → NX w L W → w.heap.size + 5 < W.heap.size → Code.ret.wpIn Fence.wide 3 Tryz.prog Q { a with defers := { target := .collected (w.heap.size + 4), args := #[] } :: a.defers } W) :
    (Code.rangeFunc g #[6] assign body).wpIn Fence.wide 3 Tryz.prog Q a Wb := by
  refine wpIn_rangeFunc ?_
  intro fn hfn
  obtain ⟨rec, hrec⟩ : ∃ rec : LoopState → Option Code → Loop, rec = fun st pe => { state := st, pending := pe, fn, tmps := a.tmps, params := #[6], assign, body, defers := w.heap.size + 4 } := ⟨_, rfl⟩
  refine ⟨w.heap.size + 5, [{ target := .collected (w.heap.size + 4), args := #[] }], (Wb.alloc (.deferred (some []))).alloc (.loop (rec .ready none)), { target := .fn (.func 150) #[.pointer (some ⟨w.heap.size + 2, 0, none⟩), .pointer (some ⟨w.heap.size + 1, 0, none⟩), .pointer (some ⟨w.heap.size + 3, 0, none⟩)], args := #[.func (.yield (w.heap.size + 5)) #[] #[]] }, (Wb.alloc (.deferred (some []))).alloc (.loop (rec .ready none)), 150,
    #[.func (.yield (w.heap.size + 5)) #[] #[], .pointer (some ⟨w.heap.size + 2, 0, none⟩), .pointer (some ⟨w.heap.size + 1, 0, none⟩), .pointer (some ⟨w.heap.size + 3, 0, none⟩)], (Wb.alloc (.deferred (some []))).alloc (.loop (rec .ready none)), ?_, ?_, ?_, ?_, fun _ => by decide, ?_⟩
  · have h := run_enterLoop_outer (P := Tryz.prog) (w := Wb) fn a.tmps #[6] assign body
    rw [hsz] at h
    rw [hrec]; exact h
  · simp only [resolve, hg]
    simp [go_sem]
  · intro f' hf'; exact trivial
  · have e := enters_of Tryz.func150 (by kernel_rfl) rfl #[.func (.yield (w.heap.size + 5)) #[] #[], .pointer (some ⟨w.heap.size + 2, 0, none⟩), .pointer (some ⟨w.heap.size + 1, 0, none⟩), .pointer (some ⟨w.heap.size + 3, 0, none⟩)] ((Wb.alloc (.deferred (some []))).alloc (.loop (rec .ready none)))
    simp [invoke, go_sem, e]
  · refine CallsIn.mono (callsIn_wide.2 (callsIn_wide.1 (split1_in w (rec .ready none) (rec .done (some .ret)) ?_ (s.size + 1) s _ (by omega) hs (hstart (rec .ready none))))) ?_
    · intro x rest W hN hx
      have hy := run_yield (P := Tryz.prog) (args := #[.string x]) hN.hl (by rw [hrec]; rfl)
      rw [hrec] at hy
      have ez : (((#[6] : Array Tmp).zip #[Value.string x]).foldl (fun tmps (t, v) => tmps.setIfInBounds t v) a.tmps) = a.tmps.setIfInBounds 6 (.string x) := by simp
      replace hy : (Instr.yield (w.heap.size + 5) #[.string x]).run Tryz.prog W = .ok (.round (w.heap.size + 5) fn (((#[6] : Array Tmp).zip #[Value.string x]).foldl (fun tmps (t, v) => tmps.setIfInBounds t v) a.tmps) assign body) W := hy
      rw [ez] at hy
      refine ⟨fn, _, assign, body, hy, ?_⟩
      refine roundIn_of_wpIn trivial ?_
      refine hassign _ x W _ ?_
      refine ⟨_, run_beginRound hN.hl (by rw [hrec]), ?_⟩
      have hN2 : NI w { rec .ready none with state := .busy } rest (W.putObj (w.heap.size + 5) (.loop { rec .ready none with state := .busy })) := hN.begun
      refine wpIn_mono (hbody _ _ x rest _ hN2 hx) ?_
      rintro e a3 W3 hp
      cases e with
      | normal =>
        obtain ⟨hl, hN3⟩ := hp
        have hr := run_endRound (P := Tryz.prog) none hN3.hl
        refine ⟨_, _, hr, .inl ⟨rfl, hl, ?_⟩⟩
        have := hN3.begun (l' := rec .ready none)
        rw [hrec] at this ⊢; exact this
      | ret =>
        obtain ⟨hl, hX3⟩ := hp
        have hlt : w.heap.size + 5 < W3.heap.size := (Array.getElem?_eq_some_iff.1 hX3.hl).1
        have hr := run_endRound (P := Tryz.prog) (some .ret) hX3.hl
        refine ⟨_, _, hr, .inr ⟨rfl, hl, ?_⟩⟩
        have := hX3.put hlt (l' := rec .done (some .ret))
        rw [hrec] at this ⊢; exact this
      | exit id => exact hp.elim
      | goto t => exact hp.elim
      | panic ch => exact hp.elim
      | outgrown => exact hp.elim
    · rintro e W2 ⟨⟨v, rfl⟩, (⟨hS, r, hN⟩ | ⟨hS, hX⟩)⟩
      · exact ⟨none, _, by have := run_endLoop (P := Tryz.prog) hN.hl (by rw [hrec]; simp); rw [hrec] at this; exact this, hdone _ _ _ hS hN.begun⟩
      · have hlt : w.heap.size + 5 < W2.heap.size := (Array.getElem?_eq_some_iff.1 hX.hl).1
        exact ⟨some .ret, _, by have := run_endLoop (P := Tryz.prog) hX.hl (by rw [hrec]; simp); rw [hrec] at this; exact this, hstop _ _ hS (hX.put hlt) (by rw [World.putObj_size]; exact hlt)⟩
theorem NI.start {s : ByteArray} {w : World} (L : Loop) : NI w L s (((boxes3 s ⟨#[46]⟩ (w.alloc (.cells #[.bool false] 4))).alloc (.deferred (some []))).alloc (.loop L)) := by
  have hB : Below w.heap.size w (((boxes3 s ⟨#[46]⟩ (w.alloc (.cells #[.bool false] 4))).alloc (.deferred (some []))).alloc (.loop L)) := by
    unfold boxes3
    repeat (first | exact Below.refl _ _ | apply below_alloc)
  unfold boxes3 at hB ⊢
  obtain ⟨c0, f0⟩ := newBox w (.bool false) 4
  generalize hA : w.alloc (.cells #[.bool false] 4) = A at *
  have sA : A.heap.size = w.heap.size + 1 := by rw [← hA]; simp
  obtain ⟨c1, f1⟩ := newBox A (.string s) 9
  generalize hA1 : A.alloc (.cells #[.string s] 9) = A1 at *
  have sA1 : A1.heap.size = w.heap.size + 2 := by rw [← hA1]; simp [sA]
  obtain ⟨c2, f2⟩ := newBox A1 (.string ⟨#[46]⟩) 9
  generalize hA2 : A1.alloc (.cells #[.string ⟨#[46]⟩] 9) = A2 at *
  have sA2 : A2.heap.size = w.heap.size + 3 := by rw [← hA2]; simp [sA1]
  obtain ⟨c3, f3⟩ := newBox A2 (.int .i64 0) 3
  generalize hA3 : A2.alloc (.cells #[.int .i64 0] 3) = A3 at *
  have sA3 : A3.heap.size = w.heap.size + 4 := by rw [← hA3]; simp [sA2]
  rw [sA] at c1 f1
  rw [sA1] at c2 f2
  rw [sA2] at c3 f3
  have hk := World.alloc_heap_new A3 (.deferred (some []))
  generalize hA4 : A3.alloc (.deferred (some [])) = A4 at *
  have sA4 : A4.heap.size = w.heap.size + 5 := by rw [← hA4]; simp [sA3]
  have hl := World.alloc_heap_new A4 (.loop L)
  rw [sA3] at hk
  rw [sA4] at hl
  have b4 : Below A3.heap.size A3 A4 := by rw [← hA4]; exact (Below.refl _ _).alloc (Nat.le_refl _) _
  have b3 : Below A2.heap.size A2 A3 := by rw [← hA3]; exact (Below.refl _ _).alloc (Nat.le_refl _) _
  have b2 : Below A1.heap.size A1 A2 := by rw [← hA2]; exact (Below.refl _ _).alloc (Nat.le_refl _) _
  have b1 : Below A.heap.size A A1 := by rw [← hA1]; exact (Below.refl _ _).alloc (Nat.le_refl _) _
  have b5 : Below A4.heap.size A4 (A4.alloc (.loop L)) := (Below.refl _ _).alloc (Nat.le_refl _) _
  have d3 := below_step b4 b5
  have d2 := below_step b3 d3
  have d1 := below_step b2 d2
  have d0 := below_step b1 d1
  exact {
    size := by simp [sA4]
    hl := hl
    hk := (b5.block _ (by omega)).trans hk
    cR := (d0.cell (p := ⟨w.heap.size, 0, none⟩) (by simp; omega)).trans c0
    fR := (d0.frozen (p := ⟨w.heap.size, 0, none⟩) (by simp; omega)).trans f0
    cS := (d1.cell (p := ⟨w.heap.size + 1, 0, none⟩) (by simp; omega)).trans c1
    fS := (d1.frozen (p := ⟨w.heap.size + 1, 0, none⟩) (by simp; omega)).trans f1
    cP := (d2.cell (p := ⟨w.heap.size + 2, 0, none⟩) (by simp; omega)).trans c2
    cQ := (d3.cell (p := ⟨w.heap.size + 3, 0, none⟩) (by simp; omega)).trans c3
    below := hB }
set_option maxHeartbeats 1000000 in
theorem name_in (s : ByteArray) (w : World) (hs : s.size ≤ 140737488355328) :
    CallsIn Fence.wide 3 Tryz.prog 91 #[.string s] w fun e w' => e = .returned (.bool (nameP s)) ∧ Below w.heap.size w w' := by
  refine callsIn_of_wp_marks Tryz.func91 rfl trivial ?_ rfl
  simp only [Tryz.ntmps91, List.size_toArray, List.length_cons, List.length_nil, Nat.reduceAdd, Nat.reduceSub, Array.replicate_succ, Array.replicate_zero, List.push_toArray, List.append_toArray, List.nil_append, List.cons_append]
  gi_wp2_with (refine ⟨trivial, ?_⟩; gi_at_call 116; refine (callsIn_wide.2 (splitSeq_calls s ⟨#[46]⟩ _)).mono ?_; rintro e w' ⟨rfl, rfl⟩)
  refine range_split (s := s) (w := w) hs (fun x => { tmps := #[.string s, undef, .pointer (some ⟨w.heap.size, 0, none⟩), .string x, .string s, .func (.func 150) #[] #[.pointer (some ⟨w.heap.size + 2, 0, none⟩), .pointer (some ⟨w.heap.size + 1, 0, none⟩), .pointer (some ⟨w.heap.size + 3, 0, none⟩)], .string x, undef, undef, undef, undef, undef, undef], defers := [] }) ?hg (by simp [boxes3]) NI.start ?assign ?body ?done ?stop
  case hg => simp [go_sem]
  case assign =>
    intro l x W K hK
    gi_wp2
    exact hK
  case body =>
    intro l L x rest W hN hx
    have cL := cLabel x W hx
    have cR := hN.cR
    have fR := hN.fR
    cases hv : labelP x with
    | true =>
      rw [hv] at cL
      have hV := Aside0.mk hv
      clear hv
      gi_wp2_with (refine ⟨trivial, ?_⟩; gi_at_call 95; refine (CallsIn.inRound l (callsIn_wide.2 cL)).mono ?_; rintro e w' ⟨rfl, hb⟩)
      exact ⟨hV.out, hN.later hb⟩
    | false =>
      rw [hv] at cL
      have hV := Aside0.mk hv
      clear hv
      gi_wp2_with (refine ⟨trivial, ?_⟩; gi_at_call 95; refine (CallsIn.inRound l (callsIn_wide.2 cL)).mono ?_; rintro e w' ⟨rfl, hb⟩; have hN2 := hN.later hb; have cR := hN2.cR; have fR := hN2.fR)
      exact ⟨hV.out, NX.of hN2⟩
  case done =>
    intro L r W hS hN
    have cR := hN.cR
    have fR := hN.fR
    by_cases h : s.size ≤ 253
    · have h2 : ((s.size : Int) ≤ 253) := by omega
      have hP := Aside0.mk (show nameP s = true from by unfold nameP; rw [hS, decide_eq_true h]; rfl)
      gi_wp2
      have hK' := (KeepsOthers.setCell W ⟨w.heap.size, 0, none⟩ (.bool true)).same (w.heap.size + 4) _ hN.hk rfl
      refine ⟨by simp, .inl ⟨_, _, rfl, run_takeDeferred hK', ?_⟩⟩
      have hc := cell_kept (World.cell?_setCell_same' W ⟨w.heap.size, 0, none⟩ (.bool true) (by rw [cR]; rfl)) (grownBy_putObj' _ (w.heap.size + 4) (.deferred none)) (fun r e => by cases e; exact ⟨_, hK', rfl⟩)
      have hz := hN.size
      refine ⟨.bool true, ?_, by rw [hP.out], (hN.below.setCell (p := ⟨w.heap.size, 0, none⟩) (by simp) _).grown (grownBy_putObj' _ _ _) (by simp; omega) (fun k e => by cases e; omega)⟩
      simp [results, Tryz.f91, go_sem, hc]
    · have h2 : ¬ ((s.size : Int) ≤ 253) := by omega
      have hP := Aside0.mk (show nameP s = false from by unfold nameP; rw [hS, decide_eq_false h]; rfl)
      gi_wp2
      have hK' := (KeepsOthers.setCell W ⟨w.heap.size, 0, none⟩ (.bool false)).same (w.heap.size + 4) _ hN.hk rfl
      refine ⟨by simp, .inl ⟨_, _, rfl, run_takeDeferred hK', ?_⟩⟩
      have hc := cell_kept (World.cell?_setCell_same' W ⟨w.heap.size, 0, none⟩ (.bool false) (by rw [cR]; rfl)) (grownBy_putObj' _ (w.heap.size + 4) (.deferred none)) (fun r e => by cases e; exact ⟨_, hK', rfl⟩)
      have hz := hN.size
      refine ⟨.bool false, ?_, by rw [hP.out], (hN.below.setCell (p := ⟨w.heap.size, 0, none⟩) (by simp) _).grown (grownBy_putObj' _ _ _) (by simp; omega) (fun k e => by cases e; omega)⟩
      simp [results, Tryz.f91, go_sem, hc]
  case stop =>
    intro L W hS hX hlt
    have hP := Aside0.mk (show nameP s = false from by unfold nameP; rw [hS]; rfl)
    gi_wp2
    refine ⟨by simp, .inl ⟨_, _, rfl, run_takeDeferred hX.hk, ?_⟩⟩
    have hc := cell_kept hX.cR (grownBy_putObj' _ (w.heap.size + 4) (.deferred none)) (fun r e => by cases e; exact ⟨_, hX.hk, rfl⟩)
    refine ⟨.bool false, ?_, by rw [hP.out], hX.below.grown (grownBy_putObj' W _ _) (by omega) (fun k e => by cases e; omega)⟩
    simp [results, Tryz.f91, go_sem, hc]
theorem cName (s : ByteArray) (w : World) (hs : s.size ≤ 140737488355328) :
    Calls Tryz.prog 91 #[.string s] w fun e w' => e = .returned (.bool (nameP s)) ∧ Below w.heap.size w w' := callsIn_wide.1 (name_in s w hs)
end Go.Proofs.YtlmeelmjodjfpaaGreatDoor.PB
