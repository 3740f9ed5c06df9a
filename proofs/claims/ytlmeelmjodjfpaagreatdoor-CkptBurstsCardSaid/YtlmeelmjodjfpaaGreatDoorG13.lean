/- CkptBursts, part 14 of 24 of its proof: for every input that meets the row's condition (laid, tied) the call returns true and each argument reads behind it as before. -/
import Derived.Test.YtlmeelmjodjfpaaGreatDoorG12
import Derived.Deep.QuietTactic
import Derived.BigQuiet
import Derived.Shelf.Abstract
section
namespace Go.Proofs.YtlmeelmjodjfpaaGreatDoor.PB
open Go.RowKit Go.Maps Go.Proofs.YtlmeelmjodjfpaaGreatDoorW.PrintWords Go.Proofs.YtlmeelmjodjfpaaGreatDoorW.PrintLast Go.Proofs.YtlmeelmjodjfpaaGreatDoorW.PrintMore
open Fr (tx tx_list tx_size tx_app tx_of)
set_option linter.unusedVariables false
set_option linter.unusedSimpArgs false
set_option maxHeartbeats 1000000
set_option maxRecDepth 100000
/-- The quoted text. -/
def qQ : List UInt8 := [34, 92, 117, 48, 48, 101, 57, 34]
theorem qs_ {P : Program} {f : FuncId} {args : Array Value} {w : World} {k n : Nat} {v : Value} (h : ∀ W, Calls P f args W fun e w' => e = .returned v ∧ w' = W) :
    Calls P f args (w.drewN (k + n)) fun e w'' => e = .returned v ∧ ∃ m, w'' = w.drewN (k + m) := (h _).mono fun _ _ ⟨he, hm⟩ => ⟨he, n, hm⟩
theorem lower_.calls (c : Int) (h : c < 65 ∨ 70 < c) (w : World) : Calls Tryz.prog 166 #[.int .u8 c] w fun e w' => e = .returned (.int .u8 c) ∧ w' = w := by
  rcases h with h | h
  · have h1 : ¬ 65 ≤ c := by omega
    clear h
    go_enter Tryz.func166, Tryz.ntmps166
    go_wp2_with fail
    go_ret
    exact ⟨rfl, rfl⟩
  · have h1 : 65 ≤ c := by omega
    have h2 : ¬ c ≤ 70 := by omega
    clear h
    go_enter Tryz.func166, Tryz.ntmps166
    go_wp2_with fail
    go_ret
    exact ⟨rfl, rfl⟩
theorem low_.calls (w : World) : Calls Tryz.prog 159 #[.int .i32 233] w fun e w' => e = .returned (.bool false) ∧ Below w.heap.size w w' := by
  have HB := Aside0.mk (Below.refl w.heap.size w)
  go_enter Tryz.func159, Tryz.ntmps159
  go_wp2_with fail
  go_ret
  exact ⟨rfl, HB.out⟩
theorem high_.calls (w : World) : Calls Tryz.prog 160 #[.int .i32 233] w fun e w' => e = .returned (.bool false) ∧ Below w.heap.size w w' := by
  have HB := Aside0.mk (Below.refl w.heap.size w)
  go_enter Tryz.func160, Tryz.ntmps160
  go_wp2_with fail
  go_ret
  exact ⟨rfl, HB.out⟩
theorem hexAt (c : Int) (i : Int) (hi : Lib.indexByte [48, 49, 50, 51, 52, 53, 54, 55, 56, 57, 97, 98, 99, 100, 101, 102] c.toNat.toUInt8 = i) (w : World) :
    Calls Tryz.prog 115 #[.string ⟨#[48, 49, 50, 51, 52, 53, 54, 55, 56, 57, 97, 98, 99, 100, 101, 102]⟩, .int .u8 c] w fun e w' => e = .returned (.int .i64 i) ∧ w' = w := by
  refine (Tryz.strings_IndexByte _ c w).mono ?_
  rintro e w' ⟨rfl, rfl⟩
  exact ⟨by rw [← hi], rfl⟩
theorem next_ {P : Program} {c : Code} {Q : Exit → Act → World → Prop} {n : Nat} {a : Act} {T : Nat} {ex : List Value} {g : Nat} {r : List UInt8} {e : Int} {w0 w W' : World}
    (h : TKs T ex g r e w0 w W') (k : ∀ W, Aside0 (TKs T ex g r e w0 w W) → W.cell? ⟨g, 0, none⟩ = some (.string (tx r)) → W.cell? ⟨g, 1, none⟩ = some (.int .i64 e) → W.frozen? ⟨g, 1, none⟩ = false → Code.rounds P c Q n a W) : Code.rounds P c Q n a W' :=
  k W' (Aside0.mk h) h.tk.c0 h.tk.c1 (h.tk.f 1)
theorem hex_.calls {v : Value} {g : Nat} {w0 w : World} (h : TKr 222 [v] g qQ 3 w) (hb : Below w0.heap.size w0 w) (hg : w0.heap.size ≤ g) :
    Calls Tryz.prog 158 #[.pointer (some ⟨g, 0, none⟩)] w fun x w' => x = .returned (.tuple #[.int .i32 233, .int .i64 0]) ∧ TKs 222 [v] g qQ 7 w0 w w' := by
  have H := TKs.refl h hb
  clear h hb
  go_enter Tryz.func158, Tryz.ntmps158
  go_wp2_with fail
  refine wp_loop_rounds 5 ?_
  refine next_ H ?_
  clear H
  intro W H c0 c1 f1
  change W.cell? ⟨g, 0, none⟩ = some (.string ⟨#[34, 92, 117, 48, 48, 101, 57, 34]⟩) at c0
  rw [rounds_succ]
  go_wp2_with fail
  go_quiet (fail)
  go_wp2_with fail
  go_quiet (first | (go_at_call 166; exact qs_ (lower_.calls 48 (by decide))) | (go_at_call 115; exact qs_ (hexAt 48 0 (by decide))))
  go_wp2_with fail
  refine next_ (TKs.put1 (H.out.quiet (pw_below_drewN (Below.refl _ _) _)) hg 4) ?_
  clear H c0 c1 f1
  intro W H c0 c1 f1
  change W.cell? ⟨g, 0, none⟩ = some (.string ⟨#[34, 92, 117, 48, 48, 101, 57, 34]⟩) at c0
  rw [rounds_succ]
  go_wp2_with fail
  go_quiet (fail)
  go_wp2_with fail
  go_quiet (first | (go_at_call 166; exact qs_ (lower_.calls 48 (by decide))) | (go_at_call 115; exact qs_ (hexAt 48 0 (by decide))))
  go_wp2_with fail
  refine next_ (TKs.put1 (H.out.quiet (pw_below_drewN (Below.refl _ _) _)) hg 5) ?_
  clear H c0 c1 f1
  intro W H c0 c1 f1
  change W.cell? ⟨g, 0, none⟩ = some (.string ⟨#[34, 92, 117, 48, 48, 101, 57, 34]⟩) at c0
  rw [rounds_succ]
  go_wp2_with fail
  go_quiet (fail)
  go_wp2_with fail
  go_quiet (first | (go_at_call 166; exact qs_ (lower_.calls 101 (by decide))) | (go_at_call 115; exact qs_ (hexAt 101 14 (by decide))))
  go_wp2_with fail
  refine next_ (TKs.put1 (H.out.quiet (pw_below_drewN (Below.refl _ _) _)) hg 6) ?_
  clear H c0 c1 f1
  intro W H c0 c1 f1
  change W.cell? ⟨g, 0, none⟩ = some (.string ⟨#[34, 92, 117, 48, 48, 101, 57, 34]⟩) at c0
  rw [rounds_succ]
  go_wp2_with fail
  go_quiet (fail)
  go_wp2_with fail
  go_quiet (first | (go_at_call 166; exact qs_ (lower_.calls 57 (by decide))) | (go_at_call 115; exact qs_ (hexAt 57 9 (by decide))))
  go_wp2_with fail
  refine next_ (TKs.put1 (H.out.quiet (pw_below_drewN (Below.refl _ _) _)) hg 7) ?_
  clear H c0 c1 f1
  intro W H c0 c1 f1
  change W.cell? ⟨g, 0, none⟩ = some (.string ⟨#[34, 92, 117, 48, 48, 101, 57, 34]⟩) at c0
  rw [rounds_succ]
  go_wp2_with fail
  go_ret2
  exact ⟨rfl, H.out⟩
/-- The slice of two bytes, at D's block. -/
def Two (B d c : Nat) (w : World) : Prop := w.ownsRow B 5 1 (.slice (some ⟨d, 0, none⟩) 2 c) 2 [.int .u8 195, .int .u8 169]
theorem appR_.calls (w : World) (hw : w.heap.size ≤ w.heap.size) : Calls Tryz.prog 161 #[.slice none 0 0, .int .i32 233] w fun e w' => ∃ d c, e = .returned (.slice (some ⟨d, 0, none⟩) 2 c) ∧ Below w.heap.size w w' ∧ w.heap.size ≤ d ∧ Two w.heap.size d c w' := by
  refine (Tryz.utf8_AppendRune_plain w.heap.size (.slice none 0 0) 0 [] 233 (by decide) (by decide) w (World.ownsRow_nil _ _ _ _) (by decide) (Nat.le_refl _)).mono ?_
  rintro e w' ⟨v', rfl, hr, o, hg⟩
  have e1 : Lib.runeCells 233 = [.int .u8 195, .int .u8 169] := by simp [Lib.runeCells, Lib.encodeRuneZ_two]
  rw [e1] at hr
  obtain ⟨d, c, rfl, h1, h2⟩ := World.ownsRow.form hr (by simp)
  exact ⟨d, c, rfl, (below_alloc (Below.refl _ _) o).grown hg (below_alloc (Below.refl w.heap.size w) o).size (fun k e => by simp [Value.ownBlock] at e), h1, hr⟩
theorem own_mono {w : World} {B B' : Nat} {e : TypeId} {k : Nat} {v : Value} {n : Nat} {xs : List Value} (h : w.ownsRow B e k v n xs) (hb : B' ≤ B) : w.ownsRow B' e k v n xs := by
  obtain ⟨h1, h2 | ⟨g, c, cur, h3, h4, h5⟩⟩ := h
  · exact ⟨h1, .inl h2⟩
  · exact ⟨h1, .inr ⟨g, c, cur, h3, Nat.le_trans hb h4, h5⟩⟩
theorem lt_of_blk {w : World} {g : Nat} {o : Obj} (h : w.heap[g]? = some o) : g < w.heap.size := by
  rcases Nat.lt_or_ge g w.heap.size with h1 | h1
  · exact h1
  · rw [Array.getElem?_eq_none h1] at h; cases h
theorem TKr.set2 {T : Nat} {v : Value} {g : Nat} {r : List UInt8} {e : Int} {w : World} (h : TKr T [v] g r e w) (x : Value) : TKr T [x] g r e (w.setCell ⟨g, 2, none⟩ x) := blk_put h 2 _ rfl
/-- What a step of the reader comes to: two bytes taken in. -/
structure RD (g : Nat) (e : Int) (w0 w' : World) (d c : Nat) : Prop where
  tk : TKr 222 [.slice (some ⟨d, 0, none⟩) 2 c] g qQ e w'
  below : Below w0.heap.size w0 w'
  two : Two w0.heap.size d c w'
theorem unicode_.calls {g : Nat} {w0 w : World} (h : TKr 222 [.slice none 0 0] g qQ 3 w) (hb : Below w0.heap.size w0 w) (hg : w0.heap.size ≤ g) :
    Calls Tryz.prog 154 #[.pointer (some ⟨g, 0, none⟩)] w fun x w' => x = .returned (.int .i64 0) ∧ ∃ d c, RD g 7 w0 w' d c := by
  have H := Aside0.mk (TKs.refl h hb)
  clear h hb
  go_enter Tryz.func154, Tryz.ntmps154
  go_wp2_with (go_at_call 158; (with_reducible refine (hex_.calls H.out.tk H.out.below hg).mono ?_); rintro x w1 ⟨rfl, hk⟩; have H1 := Aside0.mk (H.out.then hk); clear hk H)
  go_wp2_with (go_at_call 159; (with_reducible refine (low_.calls _).mono ?_); rintro x w2 ⟨rfl, hk⟩; have H2 := Aside0.mk (H1.out.quiet hk); clear hk H1)
  go_wp2_with (go_at_call 160; (with_reducible refine (high_.calls _).mono ?_); rintro x w3 ⟨rfl, hk⟩; have H3 := Aside0.mk (H2.out.quiet hk); have c2 : w3.cell? ⟨g, 2, none⟩ = some (.slice none 0 0) := (blk_cell H3.out.tk 2).trans rfl; clear hk H2)
  go_wp2_with (go_at_call 161; go_loud ((with_reducible refine (appR_.calls _ (Nat.le_refl _)).mono ?_); rintro x w4 ⟨d, c, rfl, hb4, hd4, ht4⟩; have H4 := Aside0.mk (H3.out.quiet hb4); have HG := Aside0.mk (show g < d from Nat.lt_of_lt_of_le (lt_of_blk H3.out.tk) hd4); have HT := Aside0.mk (show Two w0.heap.size d c w4 from own_mono ht4 H3.out.below.size); have f2 := H4.out.tk.f 2; have c4 : w4.cell? ⟨g, 2, none⟩ = some (.slice none 0 0) := (blk_cell H4.out.tk 2).trans rfl; clear hb4 ht4 hd4 H3 c2))
  go_ret
  exact ⟨rfl, d, c, H4.out.tk.set2 _, H4.out.below.setCell hg _, ownsRow_setCell_other HT.out (by have := HG.out; simp [Value.ownBlock]; omega) _⟩
theorem escape_.calls {g : Nat} {w0 w : World} (h : TKr 222 [.slice none 0 0] g qQ 2 w) (hb : Below w0.heap.size w0 w) (hg : w0.heap.size ≤ g) :
    Calls Tryz.prog 145 #[.pointer (some ⟨g, 0, none⟩)] w fun x w' => x = .returned (.int .i64 0) ∧ ∃ d c, RD g 7 w0 w' d c := by
  have c0 : w.cell? ⟨g, 0, none⟩ = some (.string ⟨#[34, 92, 117, 48, 48, 101, 57, 34]⟩) := h.c0
  have c1 := h.c1
  have f1 := h.f 1
  have H := Aside0.mk (TKs.refl h hb)
  clear h hb
  go_enter Tryz.func145, Tryz.ntmps145
  go_wp2_with fail
  go_quiet (fail)
  go_wp2_with fail
  go_quiet (fail)
  go_wp2_with (go_at_call 154; ((with_reducible refine (unicode_.calls (TKs.put1 (H.out.quiet (pw_below_drewN (Below.refl _ _) _)) hg 3).tk (TKs.put1 (H.out.quiet (pw_below_drewN (Below.refl _ _) _)) hg 3).below hg).mono ?_)); clear H c0 c1 f1; rintro x w1 ⟨rfl, d, c, hk⟩; have H := Aside0.mk hk; clear hk)
  go_ret
  exact ⟨rfl, d, c, H.out⟩
theorem unquote_.calls (w : World) : Calls Tryz.prog 138 #[.string ⟨#[34, 92, 117, 48, 48, 101, 57, 34]⟩] w fun x w' => x = .returned (.tuple #[.string ⟨#[195, 169]⟩, .int .i64 8, .int .i64 0]) ∧ Below w.heap.size w w' := by
  have HX : TKr 222 [.slice none 0 0] w.heap.size qQ 1 (w.alloc (.cells #[.string ⟨#[34, 92, 117, 48, 48, 101, 57, 34]⟩, .int .i64 1, .slice none 0 0] 222)) := blk_new w _
  have H := TKs.refl HX (below_alloc (Below.refl w.heap.size w) _)
  clear HX
  go_enter Tryz.func138, Tryz.ntmps138
  go_wp2_with fail
  refine wp_loop_rounds 2 ?_
  refine next_ H ?_
  clear H
  intro W H c0 c1 f1
  change W.cell? ⟨w.heap.size, 0, none⟩ = some (.string ⟨#[34, 92, 117, 48, 48, 101, 57, 34]⟩) at c0
  have hg : w.heap.size ≤ w.heap.size := Nat.le_refl _
  rw [rounds_succ]
  go_wp2_with (go_at_call 145; go_loud ((with_reducible refine (escape_.calls (H.out.put1 hg 2).tk (H.out.put1 hg 2).below hg).mono ?_)); clear H c0 c1 f1; rintro x w1 ⟨rfl, d, c, hk⟩; have H := Aside0.mk hk; have c0 : w1.cell? ⟨w.heap.size, 0, none⟩ = some (.string ⟨#[34, 92, 117, 48, 48, 101, 57, 34]⟩) := hk.tk.c0; have c1 := hk.tk.c1; have c2 : w1.cell? ⟨w.heap.size, 2, none⟩ = some (.slice (some ⟨d, 0, none⟩) 2 c) := (blk_cell hk.tk 2).trans rfl; clear hk)
  rw [rounds_succ]
  have hC : ∀ n, (convert 44 9 (.slice (some ⟨d, 0, none⟩) 2 c)).run Tryz.prog (w1.drewN n) = .ok (.string ⟨#[195, 169]⟩) (w1.drewN n) := by
    intro n
    refine run_convert_bytes_back (w1.drewN n) 44 9 5 ⟨d, 0, none⟩ c [195, 169] Tryz.underlying44 Tryz.underlying5 Tryz.underlying9 ?_
    intro j hj
    have hj : j < 2 := hj
    have h0 := World.ownsRow.cells (show Two w.heap.size d c w1 from H.out.two) (g := d) rfl j
    have : j = 0 ∨ j = 1 := by omega
    rcases this with rfl | rfl
    · exact h0 (.int .u8 195) rfl
    · exact h0 (.int .u8 169) rfl
  go_wp2_with fail
  go_quiet (fail)
  go_wp2_with fail
  go_ret3
  exact ⟨rfl, below_step H.out.below (pw_below_drewN (Below.refl _ _) _)⟩
theorem short_.calls (c d : Int) (h : (c = 97 ∧ d = 0) ∨ (c = 34 ∧ d = 34) ∨ (c = 10 ∧ d = 110)) (w : World) : Calls Tryz.prog 148 #[.int .u8 c] w fun e w' => e = .returned (.int .u8 d) ∧ Below w.heap.size w w' := by
  have HB := Aside0.mk (Below.refl w.heap.size w)
  rcases h with ⟨rfl, rfl⟩ | ⟨rfl, rfl⟩ | ⟨rfl, rfl⟩ <;>
  · go_enter Tryz.func148, Tryz.ntmps148
    go_wp2_with fail
    go_ret
    exact ⟨rfl, HB.out⟩
end Go.Proofs.YtlmeelmjodjfpaaGreatDoor.PB
end
section
namespace Go.Proofs.YtlmeelmjodjfpaaGreatDoor.PB
open Go.RowKit Go.Maps Go.Proofs.YtlmeelmjodjfpaaGreatDoorW.PrintWords Go.Proofs.YtlmeelmjodjfpaaGreatDoorW.PrintLast Go.Proofs.YtlmeelmjodjfpaaGreatDoorW.PrintMore
open Fr (tx tx_list tx_size tx_app tx_of)
set_option linter.unusedVariables false
set_option linter.unusedSimpArgs false
set_option maxHeartbeats 1000000
set_option maxRecDepth 100000
def BW (w : World) (b : Nat) (bs : List Value) (W : World) : Prop := Lib.IsBuilderF 165 5 w.heap.size b bs W ∧ Below w.heap.size w W
theorem put_.calls {w W : World} {b : Nat} {l : List UInt8} (c : Int) (l' : List UInt8) (h : BW w b (Lib.byteCells l) W) (he : Lib.byteCells l' = Lib.byteCells l ++ [.int .u8 c]) (hl : (Lib.byteCells l).length ≤ 100) : Calls Tryz.prog 147 #[.pointer (some ⟨b, 0, none⟩), .int .u8 c] W fun e w' => e = .returned .nilIface ∧ BW w b (Lib.byteCells l') w' := by
  refine (WriteByte.calls bld165 w.heap.size b _ c W h.1 (by omega) h.2.size).mono ?_
  rintro e w' ⟨rfl, h1, h2, _⟩
  exact ⟨rfl, .inr (by rw [he]; exact h1), h.2.trans h2⟩
theorem BW.quiet {w W W2 : World} {b : Nat} {bs : List Value} (h : BW w b bs W) (hb : Below W.heap.size W W2) : BW w b bs W2 := ⟨IsB_below h.1 hb, below_step h.2 hb⟩
theorem quote_.calls (w : World) : Calls Tryz.prog 139 #[.string ⟨#[97, 34, 10]⟩] w fun x w' => x = .returned (.string ⟨#[34, 97, 92, 34, 92, 110, 34]⟩) ∧ Below w.heap.size w w' := by
  have H := Aside0.mk (show BW w w.heap.size (Lib.byteCells []) (w.alloc (.cells #[.pointer none, .slice none 0 0] 165)) from ⟨bld_new (Below.refl _ _), below_alloc (Below.refl w.heap.size w) _⟩)
  go_enter Tryz.func139, Tryz.ntmps139
  go_wp2_with (go_at_call 147; go_loud ((with_reducible refine (put_.calls 34 [34] H.out rfl (by decide)).mono ?_)); clear H; rintro x w1 ⟨rfl, hk⟩; have H := Aside0.mk hk; clear hk)
  refine wp_loop_rounds 4 ?_
  rw [rounds_succ]
  go_wp2_with (first | (go_at_call 148; ((refine (short_.calls 97 0 (by simp) _).mono ?_)); rintro x w1 ⟨rfl, hk⟩; replace H := Aside0.mk (H.out.quiet hk); clear hk))
  go_wp2_with (first | (go_at_call 147; ((refine (put_.calls 97 [34, 97] H.out rfl (by decide)).mono ?_)); clear H; rintro x w1 ⟨rfl, hk⟩; have H := Aside0.mk hk; clear hk))
  rw [rounds_succ]
  go_wp2_with (first | (go_at_call 148; ((refine (short_.calls 34 34 (by simp) _).mono ?_)); rintro x w1 ⟨rfl, hk⟩; replace H := Aside0.mk (H.out.quiet hk); clear hk))
  go_wp2_with (first | (go_at_call 147; ((with_reducible refine (put_.calls 92 [34, 97, 92] H.out rfl (by decide)).mono ?_)); clear H; rintro x w1 ⟨rfl, hk⟩; have H := Aside0.mk hk; clear hk))
  go_wp2_with (first | (go_at_call 147; ((with_reducible refine (put_.calls 34 [34, 97, 92, 34] H.out rfl (by decide)).mono ?_)); clear H; rintro x w1 ⟨rfl, hk⟩; have H := Aside0.mk hk; clear hk))
  rw [rounds_succ]
  go_wp2_with (first | (go_at_call 148; ((refine (short_.calls 10 110 (by simp) _).mono ?_)); rintro x w1 ⟨rfl, hk⟩; replace H := Aside0.mk (H.out.quiet hk); clear hk))
  go_wp2_with (first | (go_at_call 147; ((with_reducible refine (put_.calls 92 [34, 97, 92, 34, 92] H.out rfl (by decide)).mono ?_)); clear H; rintro x w1 ⟨rfl, hk⟩; have H := Aside0.mk hk; clear hk))
  go_wp2_with (first | (go_at_call 147; ((with_reducible refine (put_.calls 110 [34, 97, 92, 34, 92, 110] H.out rfl (by decide)).mono ?_)); clear H; rintro x w1 ⟨rfl, hk⟩; have H := Aside0.mk hk; clear hk))
  rw [rounds_succ]
  go_wp2_with (first | (go_at_call 147; ((with_reducible refine (put_.calls 34 [34, 97, 92, 34, 92, 110, 34] H.out rfl (by decide)).mono ?_)); clear H; rintro x w1 ⟨rfl, hk⟩; have H := Aside0.mk hk; clear hk))
  go_wp2_with (go_at_call 78; refine (String.calls bld165 w.heap.size w.heap.size [34, 97, 92, 34, 92, 110, 34] _ H.out.1 (by decide)).mono ?_; rintro e w6 ⟨rfl, hb⟩; have H6 := Aside0.mk (H.out.2.trans hb); clear hb)
  go_ret
  exact ⟨rfl, H6.out⟩
theorem awake06.calls (w : World) : Calls Tryz.prog 114 #[] w (TrueP w) := by
  have HB := Aside0.mk (Below.refl w.heap.size w)
  go_enter Tryz.func114, Tryz.ntmps114
  go_wp2_with (go_at_call 138; go_loud (with_reducible refine (unquote_.calls _).mono ?_); rintro e w1 ⟨rfl, hb⟩; replace HB := Aside0.mk (below_step HB.out hb); clear hb)
  go_wp2_with (go_at_call 139; go_loud (with_reducible refine (quote_.calls _).mono ?_); rintro e w1 ⟨rfl, hb⟩; replace HB := Aside0.mk (below_step HB.out hb); clear hb)
  go_ret
  exact ⟨rfl, HB.out⟩
end Go.Proofs.YtlmeelmjodjfpaaGreatDoor.PB
end
section
namespace Go.Proofs.YtlmeelmjodjfpaaGreatDoor.PB
open Go.RowKit Go.Proofs.YtlmeelmjodjfpaaGreatDoorW.PrintWords Go.Proofs.YtlmeelmjodjfpaaGreatDoorW.PrintLast Go.Proofs.YtlmeelmjodjfpaaGreatDoorW.PrintMore
open Fr (tx tx_list tx_size tx_app)
open Go.Proofs.YtlmeelmjodjfpaaGreatDoor.Op (num numF)
set_option linter.unusedVariables false
set_option linter.unusedSimpArgs false
/-- A taker of version 3: what is left, the error, whether there were too many. -/
structure St where
  r : List UInt8
  e : Int
  f : Bool
def St.bad (s : St) : Bool := s.f || (s.e != 0)
def TK3 (g : Nat) (s : St) (w : World) : Prop := TKr 127 [.bool s.f] g s.r s.e w
theorem TK3.c2 {g : Nat} {s : St} {w : World} (h : TK3 g s w) : w.cell? ⟨g, 2, none⟩ = some (.bool s.f) := by rw [blk_cell h]; rfl
theorem TK3.set2 {g : Nat} {s : St} {w : World} (h : TK3 g s w) (b : Bool) : TK3 g ⟨s.r, s.e, b⟩ (w.setCell ⟨g, 2, none⟩ (.bool b)) := blk_put h 2 _ rfl
theorem TK3.below {g : Nat} {s : St} {w w' : World} (h : TK3 g s w) (hb : Below w.heap.size w w') : TK3 g s w' := blk_below h hb
set_option maxHeartbeats 1000000
set_option maxRecDepth 100000
theorem bad.calls {g : Nat} {s : St} {w : World} (h : TK3 g s w) (b : Bool) (hb : s.bad = b) :
    Calls Tryz.prog 97 #[.pointer (some ⟨g, 0, none⟩)] w fun x w' => x = .returned (.bool b) ∧ Below w.heap.size w w' := by
  have c1 := TKr.c1 h
  have c2 := h.c2
  clear h
  obtain ⟨r, e, f⟩ := s
  dsimp only at c1 c2
  cases f with
  | true =>
    obtain rfl : b = true := hb.symm.trans rfl
    go_enter Tryz.func97, Tryz.ntmps97
    go_wp2_with fail
    go_ret
    exact ⟨rfl, Below.refl _ _⟩
  | false =>
    have hb' : b = (e != 0) := hb.symm.trans (Bool.false_or _)
    clear hb
    by_cases he : e = 0
    · subst he
      subst hb'
      go_enter Tryz.func97, Tryz.ntmps97
      go_wp2_with fail
      go_ret
      exact ⟨rfl, Below.refl _ _⟩
    · have hz0 : (e == 0) = false := beq_eq_false_iff_ne.2 he
      have hz1 : (e != 0) = true := bne_iff_ne.2 he
      rw [hz1] at hb'
      subst hb'
      clear he
      go_enter Tryz.func97, Tryz.ntmps97
      go_wp2_with fail
      go_ret
      exact ⟨rfl, Below.refl _ _⟩
def rounds {σ : Type} (one : St → σ → St × σ) : Nat → St → σ → St × σ
  | 0, t, s => (t, s)
  | k + 1, t, s => if t.bad then (t, s) else rounds one k (one t s).1 (one t s).2
/-- What many takes, and what it leaves. -/
def manyT {σ : Type} (n most : Nat) (one : St → σ → St × σ) (t : St) (s : σ) : St × σ :=
  if t.bad then (t, s) else
    if most < (takeT n t.r t.e).1 then (⟨(takeT n t.r t.e).2.1, (takeT n t.r t.e).2.2, true⟩, s)
    else rounds one (takeT n t.r t.e).1 ⟨(takeT n t.r t.e).2.1, (takeT n t.r t.e).2.2, t.f⟩ s
theorem bad_false {t : St} (h : t.bad = false) : t.e = 0 ∧ t.f = false := by
  unfold St.bad at h; simp at h; exact ⟨h.2, h.1⟩
theorem takeT_lt (n : Nat) (r : List UInt8) (e : Int) (hn : n ≤ 2) : (takeT n r e).1 < 65536 := by
  unfold takeT
  split
  · show (0 : Nat) < 65536; decide
  · split
    · show (0 : Nat) < 65536; decide
    · have hh := Go.Proofs.YtlmeelmjodjfpaaGreatDoor.Op.num_lt (r.take n)
      have hl : (r.take n).length ≤ 2 := by rw [List.length_take]; omega
      exact Nat.lt_of_lt_of_le hh (Nat.le_trans (Nat.pow_le_pow_right (by decide) hl) (by decide))
/-- What stands in a round of many. -/
structure ManyI {σ : Type} (I : Nat → σ → World → Prop) (g : Nat) (w0 : World) (j : Nat) (t : St) (s : σ) (w : World) : Prop where
  tk : TK3 g t w
  inv : I j s w
  below : Below w0.heap.size w0 w
def ManyPost {σ : Type} (I : Nat → σ → World → Prop) (g most : Nat) (w0 : World) (p : St × σ) (x : Ending) (w' : World) : Prop := x = .returned (.tuple #[]) ∧ ∃ j, j ≤ most ∧ ManyI I g w0 j p.1 p.2 w'
theorem many.calls {σ : Type} {g : Nat} {w0 w : World} (n most : Nat) (hn : n = 1 ∨ n = 2) (hm : most ≤ 65535) (F : FuncId) (hF : ∀ (a : Array Value) (W : World), (callFunc F a).run Tryz.prog W = .ok (.enter F a) W) (cap : Array Value) (I : Nat → σ → World → Prop) (one : St → σ → St × σ)
    (hI : ∀ j s w1 w2, I j s w1 → KeepBut w1 w2 g none → I j s w2) (hg : w0.heap.size ≤ g)
    (step : ∀ j r s w1, j < most → ManyI I g w0 j ⟨r, 0, false⟩ s w1 → Calls Tryz.prog F cap w1 fun x w2 => x = .returned (.tuple #[]) ∧ ManyI I g w0 (j + 1) (one ⟨r, 0, false⟩ s).1 (one ⟨r, 0, false⟩ s).2 w2)
    (t : St) (s : σ) (h : ManyI I g w0 0 t s w) :
    Calls Tryz.prog 58 #[.pointer (some ⟨g, 0, none⟩), .int .i64 (n : Int), .int .i64 (most : Int), .func (.func F) #[] cap] w (ManyPost I g most w0 (manyT n most one t s)) := by
  have HI := Aside0.mk hI
  have HST := Aside0.mk step
  clear hI step
  have H := Aside0.mk h
  clear h
  cases hbad : t.bad with
  | true =>
    have HF := Aside0.mk (show manyT n most one t s = (t, s) from by unfold manyT; rw [if_pos hbad])
    rw [HF.out]
    have cB := bad.calls H.out.tk true hbad
    clear hbad
    go_enter Tryz.func58, Tryz.ntmps58
    go_wp2_with (go_at_call 97; refine cB.mono ?_; rintro x w1 ⟨rfl, hb⟩; have H1 := Aside0.mk (show ManyI I g w0 0 t s w1 from ⟨H.out.tk.below hb, HI.out _ _ _ _ H.out.inv (KeepBut.of_below hb g none), below_step H.out.below hb⟩); clear hb cB)
    go_end0
    exact ⟨rfl, 0, Nat.zero_le _, H1.out⟩
  | false =>
    obtain ⟨he, hf⟩ := bad_false hbad
    have cB := bad.calls H.out.tk false hbad
    obtain ⟨r, e, f⟩ := t
    dsimp only at he hf
    subst he
    subst hf
    have hlt := takeT_lt n r 0 (by omega)
    have hf2 : manyT n most one ⟨r, 0, false⟩ s = if most < (takeT n r 0).1 then (⟨(takeT n r 0).2.1, (takeT n r 0).2.2, true⟩, s) else rounds one (takeT n r 0).1 ⟨(takeT n r 0).2.1, (takeT n r 0).2.2, false⟩ s := by
      unfold manyT; rw [if_neg (by rw [hbad]; decide)]
    rw [hf2]
    have cT := fun (W : World) (k : ManyI I g w0 0 ⟨r, 0, false⟩ s W) => Take.calls n k.tk k.below hg (by omega)
    clear hf2 hbad
    obtain ⟨⟨k, r1, e1⟩, hk⟩ : ∃ p, p = takeT n r 0 := ⟨_, rfl⟩
    rw [← hk] at cT hlt ⊢
    dsimp only at cT hlt ⊢
    clear hk
    by_cases hbig : most < k
    · have hbig2 : (most : Int) < (k : Int) := by omega
      rw [if_pos hbig]
      clear hbig
      go_enter Tryz.func58, Tryz.ntmps58
      go_wp2_with (go_at_call 97; refine cB.mono ?_; rintro x w1 ⟨rfl, hb⟩; have H1 := Aside0.mk (show ManyI I g w0 0 ⟨r, 0, false⟩ s w1 from ⟨H.out.tk.below hb, HI.out _ _ _ _ H.out.inv (KeepBut.of_below hb g none), below_step H.out.below hb⟩); clear hb cB H)
      go_wp2_with (go_at_call 44; refine (cT _ H1.out).mono ?_; rintro x w2 ⟨rfl, hk⟩; have H2 := Aside0.mk (show ManyI I g w0 0 ⟨r1, e1, false⟩ s w2 from ⟨hk.tk, HI.out _ _ _ _ H1.out.inv hk.keep, hk.below⟩); have c2 := H2.out.tk.c2; have f2 := TKr.f H2.out.tk 2; clear hk cT H1)
      go_end0
      exact ⟨rfl, 0, Nat.zero_le _, H2.out.tk.set2 true, HI.out _ _ _ _ H2.out.inv ((KeepBut.refl _ g none).set_ 2 _), H2.out.below.setCell hg _⟩
    · have hbig2 : ¬ (most : Int) < (k : Int) := by omega
      rw [if_neg hbig]
      go_enter Tryz.func58, Tryz.ntmps58
      go_wp2_with (go_at_call 97; refine cB.mono ?_; rintro x w1 ⟨rfl, hb⟩; have H1 := Aside0.mk (show ManyI I g w0 0 ⟨r, 0, false⟩ s w1 from ⟨H.out.tk.below hb, HI.out _ _ _ _ H.out.inv (KeepBut.of_below hb g none), below_step H.out.below hb⟩); clear hb cB H)
      go_wp2_with (go_at_call 44; refine (cT _ H1.out).mono ?_; rintro x w2 ⟨rfl, hk⟩; have H2 := Aside0.mk (show ManyI I g w0 0 ⟨r1, e1, false⟩ s w2 from ⟨hk.tk, HI.out _ _ _ _ H1.out.inv hk.keep, hk.below⟩); clear hk cT H1)
      obtain ⟨P, HP⟩ : ∃ P, Aside0 (P = rounds one k ⟨r1, e1, false⟩ s) := ⟨_, ⟨rfl⟩⟩
      rw [← HP.out]
      go_loopw [24] (fun v24 wr => ∃ (j : Nat) (t' : St) (s' : σ), v24 = .int .i64 (j : Int) ∧ j ≤ k ∧ Aside0 (P = rounds one (k - j) t' s') ∧ Aside0 (ManyI I g w0 j t' s' wr)) (fun v24 _ => k - (intOf v24).toNat)
      case atStart => exact ⟨0, _, _, rfl, Nat.zero_le _, HP, H2⟩
      case round =>
        clear H2 HP
        obtain ⟨j, t', s', rfl, hj, HE, HX⟩ := hrel
        by_cases hlt3 : j < k
        · have hlt4 : (j : Int) < (k : Int) := by omega
          obtain ⟨d, hd⟩ : ∃ d, k - j = d + 1 := ⟨k - j - 1, by omega⟩
          have HD := Aside0.mk (show k - (j + 1) = d by omega)
          rw [hd] at HE
          clear hd
          cases hbad : t'.bad with
          | true =>
            have HF := Aside0.mk (show P = (t', s') from by rw [HE.out]; unfold rounds; rw [if_pos hbad])
            have cB := bad.calls HX.out.tk true hbad
            clear hbad HE
            go_wp2_with (go_at_call 97; refine cB.mono ?_; rintro x w3 ⟨rfl, hb⟩; have H3 := Aside0.mk (show ManyI I g w0 j t' s' w3 from ⟨HX.out.tk.below hb, HI.out _ _ _ _ HX.out.inv (KeepBut.of_below hb g none), below_step HX.out.below hb⟩); clear hb cB HX)
            go_end0
            exact ⟨rfl, j, by omega, by rw [HF.out]; exact H3.out⟩
          | false =>
            have HF := Aside0.mk (show P = rounds one d (one t' s').1 (one t' s').2 from by rw [HE.out]; show (if t'.bad then _ else _) = _; rw [if_neg (by rw [hbad]; decide)])
            have cB := bad.calls HX.out.tk false hbad
            obtain ⟨he, hf⟩ := bad_false hbad
            obtain ⟨r', e', f'⟩ := t'
            dsimp only at he hf
            subst he
            subst hf
            clear hbad HE
            go_wp2_with (go_at_call 97; refine cB.mono ?_; rintro x w3 ⟨rfl, hb⟩; have H3 := Aside0.mk (show ManyI I g w0 j ⟨r', 0, false⟩ s' w3 from ⟨HX.out.tk.below hb, HI.out _ _ _ _ HX.out.inv (KeepBut.of_below hb g none), below_step HX.out.below hb⟩); clear hb cB HX)
            go_wp2_with (go_at_fn F; refine (HST.out j r' s' _ (by omega) H3.out).mono ?_; rintro x w4 ⟨rfl, h4⟩; have H4 := Aside0.mk h4; clear h4 H3)
            have hw1 : wrap64 ((j : Int) + 1) = ((j + 1 : Nat) : Int) := by unfold wrap64; omega
            go_roundw
            case rel => exact ⟨j + 1, _, _, by simp [hw1], hlt3, ⟨by rw [HF.out, HD.out]⟩, H4⟩
            case measure => simp [intOf, hw1]; omega
        · have hlt7 : ¬ (j : Int) < (k : Int) := by omega
          have HF := Aside0.mk (show P = (t', s') from by rw [HE.out, show k - j = 0 by omega]; rfl)
          go_wp2_with fail
          go_end0
          exact ⟨rfl, j, by omega, by rw [HF.out]; exact HX.out⟩
end Go.Proofs.YtlmeelmjodjfpaaGreatDoor.PB
end
section
namespace Go.Proofs.YtlmeelmjodjfpaaGreatDoor.PB
open Go.RowKit Go.Proofs.YtlmeelmjodjfpaaGreatDoorW.PrintWords Go.Proofs.YtlmeelmjodjfpaaGreatDoorW.PrintLast Go.Proofs.YtlmeelmjodjfpaaGreatDoorW.PrintMore
open Fr (tx tx_list tx_size tx_app)
open Go.Proofs.YtlmeelmjodjfpaaGreatDoor.Op (num numF)
set_option linter.unusedVariables false
set_option linter.unusedSimpArgs false
/-- Of what lay in w, the blocks g and c alone may have been turned. -/
def Mod2 (g c : Nat) (w w' : World) : Prop := w.heap.size ≤ w'.heap.size ∧ ∀ k, k < w.heap.size → k ≠ g → k ≠ c → w'.heap[k]? = w.heap[k]?
theorem Mod2.refl (g c : Nat) (w : World) : Mod2 g c w w := ⟨Nat.le_refl _, fun _ _ _ _ => rfl⟩
theorem Mod2.keep {g c : Nat} {w w1 w2 : World} (h : Mod2 g c w w1) (k : KeepBut w1 w2 g none) : Mod2 g c w w2 :=
  ⟨Nat.le_trans h.1 k.1, fun i hi h1 h2 => (k.2 i (Nat.lt_of_lt_of_le hi h.1) h1 (by simp)).trans (h.2 i hi h1 h2)⟩
theorem Mod2.below {g c : Nat} {w w1 w2 : World} (h : Mod2 g c w w1) (hb : Below w1.heap.size w1 w2) : Mod2 g c w w2 := h.keep (KeepBut.of_below hb g none)
theorem Mod2.grown {g c : Nat} {w w1 w2 : World} (h : Mod2 g c w w1) {row : Option Nat} (hg : w1.grownBy w2 row) (hr : ∀ k, k < w.heap.size → some k ≠ row) : Mod2 g c w w2 :=
  ⟨Nat.le_trans h.1 hg.size, fun i hi h1 h2 => (hg.block i (Nat.lt_of_lt_of_le hi h.1) (hr i hi)).trans (h.2 i hi h1 h2)⟩
theorem Mod2.set {g c : Nat} {w w1 : World} (h : Mod2 g c w w1) (j : Nat) (u : Value) : Mod2 g c w (w1.setCell ⟨c, j, none⟩ u) :=
  ⟨by simpa [World.setCell] using h.1, fun i hi h1 h2 => (Below.heap_setCell w1 ⟨c, j, none⟩ u i h2).trans (h.2 i hi h1 h2)⟩
/-- The places of a container that is being taken: the taker's block, the container's, the variable that leads to the taker. -/
structure CE (g cb tb : Nat) (w0 wE : World) : Prop where
  cg : cb ≠ g
  tg : tb ≠ g
  tc : tb ≠ cb
  gl : g < wE.heap.size
  cl : cb < wE.heap.size
  hg : w0.heap.size ≤ g
  hc : w0.heap.size ≤ cb
  hE : w0.heap.size ≤ wE.heap.size
  tp : wE.heap[tb]? = some (.cells #[.pointer (some ⟨g, 0, none⟩)] 125 (0, 0))
theorem CE.at {g cb tb : Nat} {w0 wE w : World} (h : CE g cb tb w0 wE) (m : Mod2 g cb wE w) : w.cell? ⟨tb, 0, none⟩ = some (.pointer (some ⟨g, 0, none⟩)) := by
  rw [blk_cell ((m.2 tb (blk_lt h.tp) h.tg h.tc).trans h.tp)]; rfl
/-- What stands while a field of the container grows. -/
structure C1 {α : Type} (d : Kd α) (e f T : Nat) (g cb : Nat) (w0 wE : World) (cs : Array Value) (v : Value) (l : List α) (w : World) : Prop where
  blk : w.heap[cb]? = some (.cells (cs.setIfInBounds f v) T (0, 0))
  row : d.R e w w0.heap.size (fun k => wE.heap.size ≤ k) v l
  mod : Mod2 g cb wE w
def C1I {α : Type} (d : Kd α) (e f T : Nat) (g cb : Nat) (w0 wE : World) (cs : Array Value) (j : Nat) (l : List α) (w : World) : Prop := l.length = j ∧ ∃ v, C1 d e f T g cb w0 wE cs v l w
theorem C1I.keep {α : Type} {d : Kd α} {e f T : Nat} {g cb tb : Nat} {w0 wE : World} {cs : Array Value} (E : CE g cb tb w0 wE) : ∀ j l w1 w2, C1I d e f T g cb w0 wE cs j l w1 → KeepBut w1 w2 g none → C1I d e f T g cb w0 wE cs j l w2 := by
  rintro j l w1 w2 ⟨hl, v, hb, hr, hm⟩ hk
  exact ⟨hl, v, hk.blk hb E.cg (by simp), Kd.R_keep hr hk (fun k hk2 => by have := E.gl; omega), hm.keep hk⟩
theorem own_far {α : Type} {d : Kd α} {e : Nat} {w : World} {base N : Nat} {v : Value} {l : List α} (h : d.R e w base (fun k => N ≤ k) v l) : ∀ k, k < N → some k ≠ v.ownBlock :=
  fun k hk he => absurd (h.1 k he.symm) (by omega)
theorem info9 : (Tryz.prog.info? 9).map (fun i => (i.zero, i.size, i.bytes)) = some (some (.string ⟨#[]⟩), 1, 16) := by kernel_rfl
theorem info160 : (Tryz.prog.info? 160).map (fun i => (i.zero, i.size, i.bytes)) = some (some (.agg #[.int .i64 0, .int .i64 0]), 2, 16) := by kernel_rfl
theorem info161 : (Tryz.prog.info? 161).map (fun i => (i.zero, i.size, i.bytes)) = some (some (.agg #[.string ⟨#[]⟩, .string ⟨#[]⟩]), 2, 32) := by kernel_rfl
theorem TK3.drew1 {g : Nat} {r : List UInt8} {w : World} (h : TK3 g ⟨r, 0, false⟩ w) : TKr 127 [.bool false] g r 0 w.drew := h
theorem R_form {α : Type} {d : Kd α} {e : Nat} {w : World} {base : Nat} {ok : Nat → Prop} {v : Value} {xs : List α} (h : d.R e w base ok v xs) (hx : 0 < xs.length) : ∃ gb cap, v = .slice (some ⟨gb, 0, none⟩) xs.length cap := by
  obtain ⟨_, inner, ho, _⟩ := h
  rcases ho.2 with ⟨rfl, h0⟩ | ⟨g, cap, cur, rfl, _⟩
  · omega
  · exact ⟨g, cap, rfl⟩
theorem k160_M (w : World) (base : Nat) (ok : Nat → Prop) (x : S160) : k160.M w base ok x [.int .i64 x.f0, .int .i64 x.f1] := ⟨_, _, rfl, rfl, rfl⟩
theorem k161_M (w : World) (base : Nat) (ok : Nat → Prop) (x : S161) : k161.M w base ok x [.string x.f0, .string x.f1] := ⟨_, _, rfl, rfl, rfl⟩
theorem cell_below_ {w w' : World} (hb : Below w.heap.size w w') {a : Addr} {u : Value} (h : w.cell? a = some u) : w'.cell? a = some u := by
  obtain ⟨o, ho, _⟩ := cells_of_cell h
  exact (hb.cell (p := a) (Array.getElem?_eq_some_iff.1 ho).1).trans h
/-- What each closure takes. -/
def one1 (t : St) (l : List ByteArray) : St × List ByteArray := (⟨(textT t.r t.e).2.1, (textT t.r t.e).2.2, t.f⟩, l ++ [tx (textT t.r t.e).1])
def one2 (t : St) (l : List S160) : St × List S160 :=
  let a := takeT 2 t.r t.e; let b := takeT 1 a.2.1 a.2.2
  (⟨b.2.1, b.2.2, t.f⟩, l ++ [⟨(a.1 : Int), (b.1 : Int)⟩])
def one3 (t : St) (l : List S161) : St × List S161 :=
  let a := textT t.r t.e; let b := textT a.2.1 a.2.2
  (⟨b.2.1, b.2.2, t.f⟩, l ++ [⟨tx a.1, tx b.1⟩])
theorem KeepBut.then {w w1 w2 : World} {g : Nat} (h : KeepBut w w1 g none) (k : KeepBut w1 w2 g none) : KeepBut w w2 g none := h.trans k (.inl rfl)
set_option maxHeartbeats 1000000
set_option maxRecDepth 100000
theorem clos1.calls {g cb tb : Nat} {w0 wE : World} {cs : Array Value} (E : CE g cb tb w0 wE) (hcs : 2 < cs.size) (j : Nat) (r : List UInt8) (l : List ByteArray) (w1 : World) (hj : j < 16) (h : ManyI (C1I Kd.string 9 2 104 g cb w0 wE cs) g w0 j ⟨r, 0, false⟩ l w1) :
    Calls Tryz.prog 98 #[.pointer (some ⟨cb, 0, none⟩), .pointer (some ⟨tb, 0, none⟩)] w1 fun x w2 => x = .returned (.tuple #[]) ∧ ManyI (C1I Kd.string 9 2 104 g cb w0 wE cs) g w0 (j + 1) (one1 ⟨r, 0, false⟩ l).1 (one1 ⟨r, 0, false⟩ l).2 w2 := by
  obtain ⟨htk, ⟨hl, v, hC⟩, hbel⟩ := h
  have hT : w1.cell? ⟨tb, 0, none⟩ = some (.pointer (some ⟨g, 0, none⟩)) := E.at hC.mod
  have hV : w1.cell? ⟨cb, 2, none⟩ = some v := by rw [blk_cell hC.blk]; simp [hcs]
  have H := Aside0.mk (And.intro htk (And.intro hC (And.intro hbel hl)))
  have HV := Aside0.mk hV
  have HT := Aside0.mk hT
  clear htk hC hbel hl hV hT
  have hE := E
  replace hE := Aside0.mk hE
  clear E
  go_enter Tryz.func98, Tryz.ntmps98
  go_wp2_with fail
  refine start_ (n := 10) (S := fun w' => w'.heap[cb]? = some (.cells (cs.setIfInBounds 2 v) 104 (0, 0)) ∧ w'.cell? ⟨cb, 2, none⟩ = some v ∧ w'.cell? ⟨tb, 0, none⟩ = some (.pointer (some ⟨g, 0, none⟩)) ∧ Mod2 g cb wE w' ∧ Below w0.heap.size w0 w') (ds := [9]) #[false, false, false, false, false, false, false, false, false, false] (by kernel_rfl) rfl rfl ⟨(show w1.drew.heap[cb]? = _ from H.out.2.1.blk), (cell_below_ (below_drew1 (Below.refl _ _)) HV.out), (cell_below_ (below_drew1 (Below.refl _ _)) HT.out), (H.out.2.1.mod.below (below_drew1 (Below.refl _ _))), (below_drew1 H.out.2.2.1)⟩ (fun hHeld => ?_)
  refine pure_ (i := 0) (N := some 2) (v := ?_) (a' := ?_) #[true, false, false, false, false, false, false, false, false, false] rfl rfl (by kernel_rfl) (fun _ _ _ h => h) (Or.inl ⟨by rfl, ?_⟩) ?_ ?_
  rotate_left
  · intro w'
    go_simp
    with_reducible rfl
  rotate_left
  · simp only [Act.put, List.setIfInBounds_toArray, List.set_cons_zero, List.set_cons_succ, i64_w, i32_w]
    rfl
  refine take_ (i := 1) (N := some 3) (v := ?_) (a' := ?_) #[true, true, false, false, false, false, false, false, false, false] rfl rfl (by kernel_rfl) (fun _ _ _ h => h) (Or.inl ⟨by rfl, ?_⟩) hHeld ?_ ?_
  rotate_left
  · rintro w' ⟨s0, s1, s2, s3, s4⟩
    go_simp
    with_reducible rfl
  rotate_left
  · simp only [Act.put, List.setIfInBounds_toArray, List.set_cons_zero, List.set_cons_succ, i64_w, i32_w]
    rfl
  refine take_ (i := 2) (N := some 4) (v := ?_) (a' := ?_) #[true, true, true, false, false, false, false, false, false, false] rfl rfl (by kernel_rfl) (fun _ _ _ h => h) (Or.inl ⟨by rfl, ?_⟩) hHeld ?_ ?_
  rotate_left
  · rintro w' ⟨s0, s1, s2, s3, s4⟩
    go_simp
    with_reducible rfl
  rotate_left
  · simp only [Act.put, List.setIfInBounds_toArray, List.set_cons_zero, List.set_cons_succ, i64_w, i32_w]
    rfl
  refine pure_ (i := 3) (N := some 5) (v := ?_) (a' := ?_) #[true, true, true, true, false, false, false, false, false, false] rfl rfl (by kernel_rfl) (fun _ _ _ h => h) (Or.inl ⟨by rfl, ?_⟩) ?_ ?_
  rotate_left
  · intro w'
    go_simp
    with_reducible rfl
  rotate_left
  · simp only [Act.put, List.setIfInBounds_toArray, List.set_cons_zero, List.set_cons_succ, i64_w, i32_w]
    rfl
  refine pure_ (i := 4) (N := some 6) (v := ?_) (a' := ?_) #[true, true, true, true, true, false, false, false, false, false] rfl rfl (by kernel_rfl) (fun _ _ _ h => h) (Or.inl ⟨by rfl, ?_⟩) ?_ ?_
  rotate_left
  · intro w'
    go_simp
    with_reducible rfl
  rotate_left
  · simp only [Act.put, List.setIfInBounds_toArray, List.set_cons_zero, List.set_cons_succ, i64_w, i32_w]
    rfl
  refine one_ (i := 5) (N := some 7) #[true, true, true, true, true, true, false, false, false, false] rfl rfl (by kernel_rfl) (by decide) (fun K hK => ?_)
  refine goes_ Tryz.func46 (by kernel_rfl) rfl #[.pointer (some ⟨g, 0, none⟩)] (by rfl) rfl rfl (by simp only [List.map_toArray, List.map_cons, List.map_nil]; rfl) ?_
  with_reducible refine (Text.calls (T := 127) (ex := [.bool false]) (TK3.drew1 H.out.1) (below_drew1 H.out.2.2.1) hE.out.hg).mono ?_
  rintro x w3 ⟨rfl, hk⟩
  refine ⟨_, rfl, ?_⟩
  have K3 := Aside0.mk hk
  refine hK.out _ _ ⟨hk.keep.blk hHeld.1 hE.out.cg (by simp), keep_cell hk.keep hHeld.2.1 hE.out.cg, keep_cell hk.keep hHeld.2.2.1 hE.out.tg, hHeld.2.2.2.1.keep hk.keep, hk.below⟩ (fun hNow => ?_)
  clear hK K hHeld
  have hHeld := hNow
  clear hNow
  refine norm_ (a' := ?_) ?_ ?_
  rotate_left
  · show Act.put _ (some 7) _ = _
    simp only [Act.put, List.setIfInBounds_toArray, List.set_cons_zero, List.set_cons_succ, i64_w, i32_w]
    rfl
  refine one_ (i := 6) (N := some 8) #[true, true, true, true, true, true, true, false, false, false] rfl rfl (by kernel_rfl) (by decide) (fun K hK => ?_)
  have HS3 := Aside0.mk hHeld
  have HR3 := Aside0.mk (Kd.R_keep H.out.2.1.row (g := g) (K3.out.keep) (fun k hk2 => by have := hE.out.gl; omega))
  refine value_ (w1 := ?_) (v := ?_) (by rfl) rfl ?_ ?_
  rotate_left 2
  · go_simp
    constructor
    · rfl
    · rfl
  refine hK.out _ _ ⟨blk_alloc hHeld.1 _, cell_below_ (below_alloc (Below.refl _ _) _) hHeld.2.1, cell_below_ (below_alloc (Below.refl _ _) _) hHeld.2.2.1, hHeld.2.2.2.1.below (below_alloc (Below.refl _ _) _), below_alloc hHeld.2.2.2.2 _⟩ (fun hNow => ?_)
  clear hK K hHeld
  have hHeld := hNow
  clear hNow
  refine norm_ (a' := ?_) ?_ ?_
  rotate_left
  · show Act.put _ (some 8) _ = _
    simp only [Act.put, List.setIfInBounds_toArray, List.set_cons_zero, List.set_cons_succ, i64_w, i32_w]
    rfl
  refine one_ (i := 7) (N := some 9) #[true, true, true, true, true, true, true, true, false, false] rfl rfl (by kernel_rfl) (by decide) (fun K hK => ?_)
  refine Kd.R_append_step Kd.string (w0 := w0) w0.heap.size rfl (.tmp 3) (.tmp 8) 24 9 (.string ⟨#[]⟩) 16 (by rfl) Tryz.underlying24 info9 rfl (by decide) (by decide) v l (tx (textT r 0).1) [.string (tx (textT r 0).1)] (fun k => wE.heap.size ≤ k) (fun _ => False) rfl rfl rfl (fun _ h => h.elim) (fun k hk => Nat.le_trans HS3.out.2.2.2.1.1 hk) HR3.out HS3.out.2.2.2.2 HS3.out.2.2.2.2.size (by have := H.out.2.2.2; omega) ?_
  intro v1 w5 hr5 hb5 hg5 hat5
  obtain ⟨gb, cap, rfl⟩ := R_form hr5 (by simp)
  refine hK.out _ _ ⟨blk_grown HS3.out.1 hg5 (own_far HR3.out cb hE.out.cl), (World.cell?_of_block (w := _) (hg5.block cb (blk_lt HS3.out.1) (own_far HR3.out cb hE.out.cl))).trans HS3.out.2.1, (World.cell?_of_block (w := _) (hg5.block tb (Nat.lt_of_lt_of_le (blk_lt hE.out.tp) HS3.out.2.2.2.1.1) (own_far HR3.out tb (blk_lt hE.out.tp)))).trans HS3.out.2.2.1, HS3.out.2.2.2.1.grown hg5 (own_far HR3.out), hb5⟩ (fun hNow => ?_)
  clear hK K hHeld
  have hHeld := hNow
  clear hNow
  refine norm_ (a' := ?_) ?_ ?_
  rotate_left
  · show Act.put _ (some 9) _ = _
    simp only [Act.put, List.setIfInBounds_toArray, List.set_cons_zero, List.set_cons_succ, i64_w, i32_w]
    rfl
  refine pure_ (i := 8) (N := some 10) (v := ?_) (a' := ?_) #[true, true, true, true, true, true, true, true, true, false] rfl rfl (by kernel_rfl) (fun _ _ _ h => h) (Or.inl ⟨by rfl, ?_⟩) ?_ ?_
  rotate_left
  · intro w'
    go_simp
    with_reducible rfl
  rotate_left
  · simp only [Act.put, List.setIfInBounds_toArray, List.set_cons_zero, List.set_cons_succ, i64_w, i32_w]
    rfl
  refine last_ (i := 9) (N := none) #[true, true, true, true, true, true, true, true, true, true] rfl rfl (by kernel_rfl) (by decide) (fun K hK => ?_)
  have fz := blk_frozen hHeld.1 2
  refine skip_ (w1 := ?_) (by rfl) rfl ?_ ?_
  rotate_left
  · go_simp
    rfl
  refine hK.out _ _ ?_
  clear hK K
  refine done_ (by kernel_rfl) ?_
  clear hHeld
  have H9 := Aside0.mk (And.intro hr5 (And.intro hb5 (And.intro hg5 hat5)))
  clear hr5 hb5 hg5 hat5
  go_wp2_with fail
  go_end0
  refine ⟨rfl, ?_, ⟨by simp [one1]; have := H.out.2.2.2; omega, .slice (some ⟨gb, 0, none⟩) (l.length + 1) cap, ?_, ?_, ?_⟩, ?_⟩
  · exact blk_far (blk_grown (K3.out.tk) H9.out.2.2.1 (own_far HR3.out g hE.out.gl)) (Ne.symm hE.out.cg) _
  · refine blk_put (blk_grown HS3.out.1 H9.out.2.2.1 (own_far HR3.out cb hE.out.cl)) 2 _ (by simp)
  · have h8 := H9.out.1
    rw [List.length_append, List.length_singleton] at h8
    exact Kd.R_far h8 (fun k hk => by have := hE.out.cl; show k ≠ cb; omega) _
  · exact (HS3.out.2.2.2.1.grown H9.out.2.2.1 (own_far HR3.out)).set _ _
  · exact H9.out.2.1.setCell hE.out.hc _
theorem clos2.calls {g cb tb : Nat} {w0 wE : World} {cs : Array Value} (E : CE g cb tb w0 wE) (hcs : 3 < cs.size) (j : Nat) (r : List UInt8) (l : List S160) (w1 : World) (hj : j < 16) (h : ManyI (C1I k160 160 3 104 g cb w0 wE cs) g w0 j ⟨r, 0, false⟩ l w1) :
    Calls Tryz.prog 99 #[.pointer (some ⟨cb, 0, none⟩), .pointer (some ⟨tb, 0, none⟩)] w1 fun x w2 => x = .returned (.tuple #[]) ∧ ManyI (C1I k160 160 3 104 g cb w0 wE cs) g w0 (j + 1) (one2 ⟨r, 0, false⟩ l).1 (one2 ⟨r, 0, false⟩ l).2 w2 := by
  obtain ⟨htk, ⟨hl, v, hC⟩, hbel⟩ := h
  have hT : w1.cell? ⟨tb, 0, none⟩ = some (.pointer (some ⟨g, 0, none⟩)) := E.at hC.mod
  have hV : w1.cell? ⟨cb, 3, none⟩ = some v := by rw [blk_cell hC.blk]; simp [hcs]
  have H := Aside0.mk (And.intro htk (And.intro hC (And.intro hbel hl)))
  have HV := Aside0.mk hV
  have HT := Aside0.mk hT
  clear htk hC hbel hl hV hT
  have hE := E
  replace hE := Aside0.mk hE
  have hn1 := takeT_lt 2 r 0 (by omega)
  have hn2 := takeT_lt 1 (takeT 2 r 0).2.1 (takeT 2 r 0).2.2 (by omega)
  obtain ⟨⟨n1, r1, e1⟩, hk1⟩ : ∃ p, p = takeT 2 r 0 := ⟨_, rfl⟩
  rw [← hk1] at hn1 hn2
  obtain ⟨⟨n2, r2, e2⟩, hk2⟩ : ∃ p, p = takeT 1 r1 e1 := ⟨_, rfl⟩
  rw [← hk2] at hn2
  have HF := Aside0.mk (show one2 ⟨r, 0, false⟩ l = (⟨r2, e2, false⟩, l ++ [⟨(n1 : Int), (n2 : Int)⟩]) from by unfold one2; dsimp only; rw [← hk1]; dsimp only; rw [← hk2])
  rw [HF.out]
  have cT1 : Calls Tryz.prog 44 #[.pointer (some ⟨g, 0, none⟩), .int .i64 2] w1.drew _ := Take.calls 2 (T := 127) (ex := [.bool false]) (TK3.drew1 H.out.1) (below_drew1 H.out.2.2.1) hE.out.hg (by decide)
  rw [← hk1] at cT1
  have cT2 : ∀ (W W2 : World) (k : TKs 127 [.bool false] g r1 e1 w0 W W2), Calls Tryz.prog 44 #[.pointer (some ⟨g, 0, none⟩), .int .i64 1] W2 _ := fun (W W2 : World) (k : TKs 127 [.bool false] g r1 e1 w0 W W2) => Take.calls 1 k.tk k.below hE.out.hg (by decide)
  rw [← hk2] at cT2
  dsimp only at hn1 hn2 cT1 cT2 ⊢
  clear hk1 hk2
  have q1 : IntKind.i64.wrap (n1 : Int) = n1 := IntWalk.i64_in _ (by omega)
  have q2 : IntKind.i64.wrap (n2 : Int) = n2 := IntWalk.i64_in _ (by omega)
  have q3 : wrap64 (n1 : Int) = n1 := IntWalk.wrap64_in _ (by omega)
  have q4 : wrap64 (n2 : Int) = n2 := IntWalk.wrap64_in _ (by omega)
  clear E
  go_enter Tryz.func99, Tryz.ntmps99
  go_wp2_with fail
  refine start_ (n := 17) (S := fun w' => w'.heap[cb]? = some (.cells (cs.setIfInBounds 3 v) 104 (0, 0)) ∧ w'.cell? ⟨cb, 3, none⟩ = some v ∧ w'.cell? ⟨tb, 0, none⟩ = some (.pointer (some ⟨g, 0, none⟩)) ∧ Mod2 g cb wE w' ∧ Below w0.heap.size w0 w') (ds := [16]) #[false, false, false, false, false, false, false, false, false, false, false, false, false, false, false, false, false] (by kernel_rfl) rfl rfl ⟨(show w1.drew.heap[cb]? = _ from H.out.2.1.blk), (cell_below_ (below_drew1 (Below.refl _ _)) HV.out), (cell_below_ (below_drew1 (Below.refl _ _)) HT.out), (H.out.2.1.mod.below (below_drew1 (Below.refl _ _))), (below_drew1 H.out.2.2.1)⟩ (fun hHeld => ?_)
  refine pure_ (i := 0) (N := some 2) (v := ?_) (a' := ?_) #[true, false, false, false, false, false, false, false, false, false, false, false, false, false, false, false, false] rfl rfl (by kernel_rfl) (fun _ _ _ h => h) (Or.inl ⟨by rfl, ?_⟩) ?_ ?_
  rotate_left
  · intro w'
    go_simp
    with_reducible rfl
  rotate_left
  · simp only [Act.put, List.setIfInBounds_toArray, List.set_cons_zero, List.set_cons_succ, i64_w, i32_w]
    rfl
  refine take_ (i := 1) (N := some 3) (v := ?_) (a' := ?_) #[true, true, false, false, false, false, false, false, false, false, false, false, false, false, false, false, false] rfl rfl (by kernel_rfl) (fun _ _ _ h => h) (Or.inl ⟨by rfl, ?_⟩) hHeld ?_ ?_
  rotate_left
  · rintro w' ⟨s0, s1, s2, s3, s4⟩
    go_simp
    with_reducible rfl
  rotate_left
  · simp only [Act.put, List.setIfInBounds_toArray, List.set_cons_zero, List.set_cons_succ, i64_w, i32_w]
    rfl
  refine take_ (i := 2) (N := some 4) (v := ?_) (a' := ?_) #[true, true, true, false, false, false, false, false, false, false, false, false, false, false, false, false, false] rfl rfl (by kernel_rfl) (fun _ _ _ h => h) (Or.inl ⟨by rfl, ?_⟩) hHeld ?_ ?_
  rotate_left
  · rintro w' ⟨s0, s1, s2, s3, s4⟩
    go_simp
    with_reducible rfl
  rotate_left
  · simp only [Act.put, List.setIfInBounds_toArray, List.set_cons_zero, List.set_cons_succ, i64_w, i32_w]
    rfl
  refine pure_ (i := 3) (N := some 5) (v := ?_) (a' := ?_) #[true, true, true, true, false, false, false, false, false, false, false, false, false, false, false, false, false] rfl rfl (by kernel_rfl) (fun _ _ _ h => h) (Or.inl ⟨by rfl, ?_⟩) ?_ ?_
  rotate_left
  · intro w'
    go_simp
    with_reducible rfl
  rotate_left
  · simp only [Act.put, List.setIfInBounds_toArray, List.set_cons_zero, List.set_cons_succ, i64_w, i32_w]
    rfl
  refine pure_ (i := 4) (N := some 6) (v := ?_) (a' := ?_) #[true, true, true, true, true, false, false, false, false, false, false, false, false, false, false, false, false] rfl rfl (by kernel_rfl) (fun _ _ _ h => h) (Or.inl ⟨by rfl, ?_⟩) ?_ ?_
  rotate_left
  · intro w'
    go_simp
    with_reducible rfl
  rotate_left
  · simp only [Act.put, List.setIfInBounds_toArray, List.set_cons_zero, List.set_cons_succ, i64_w, i32_w]
    rfl
  refine take_ (i := 7) (N := some 9) (v := ?_) (a' := ?_) #[true, true, true, true, true, false, false, true, false, false, false, false, false, false, false, false, false] rfl rfl (by kernel_rfl) (fun _ _ _ h => h) (Or.inl ⟨by rfl, ?_⟩) hHeld ?_ ?_
  rotate_left
  · rintro w' ⟨s0, s1, s2, s3, s4⟩
    go_simp
    with_reducible rfl
  rotate_left
  · simp only [Act.put, List.setIfInBounds_toArray, List.set_cons_zero, List.set_cons_succ, i64_w, i32_w]
    rfl
  refine pure_ (i := 8) (N := some 10) (v := ?_) (a' := ?_) #[true, true, true, true, true, false, false, true, true, false, false, false, false, false, false, false, false] rfl rfl (by kernel_rfl) (fun _ _ _ h => h) (Or.inl ⟨by rfl, ?_⟩) ?_ ?_
  rotate_left
  · intro w'
    go_simp
    with_reducible rfl
  rotate_left
  · simp only [Act.put, List.setIfInBounds_toArray, List.set_cons_zero, List.set_cons_succ, i64_w, i32_w]
    rfl
  refine pure_ (i := 9) (N := some 11) (v := ?_) (a' := ?_) #[true, true, true, true, true, false, false, true, true, true, false, false, false, false, false, false, false] rfl rfl (by kernel_rfl) (fun _ _ _ h => h) (Or.inl ⟨by rfl, ?_⟩) ?_ ?_
  rotate_left
  · intro w'
    go_simp
    with_reducible rfl
  rotate_left
  · simp only [Act.put, List.setIfInBounds_toArray, List.set_cons_zero, List.set_cons_succ, i64_w, i32_w]
    rfl
  refine one_ (i := 5) (N := some 7) #[true, true, true, true, true, true, false, true, true, true, false, false, false, false, false, false, false] rfl rfl (by kernel_rfl) (by decide) (fun K hK => ?_)
  refine goes_ Tryz.func44 (by kernel_rfl) rfl #[.pointer (some ⟨g, 0, none⟩), .int .i64 2] (by rfl) rfl rfl (by simp only [List.map_toArray, List.map_cons, List.map_nil]; rfl) ?_
  with_reducible refine (cT1).mono ?_
  rintro x w3 ⟨rfl, hk⟩
  refine ⟨_, rfl, ?_⟩
  have K3 := Aside0.mk hk
  refine hK.out _ _ ⟨hk.keep.blk hHeld.1 hE.out.cg (by simp), keep_cell hk.keep hHeld.2.1 hE.out.cg, keep_cell hk.keep hHeld.2.2.1 hE.out.tg, hHeld.2.2.2.1.keep hk.keep, hk.below⟩ (fun hNow => ?_)
  clear hK K hHeld
  have hHeld := hNow
  clear hNow
  refine norm_ (a' := ?_) ?_ ?_
  rotate_left
  · show Act.put _ (some 7) _ = _
    simp only [Act.put, List.setIfInBounds_toArray, List.set_cons_zero, List.set_cons_succ, i64_w, i32_w]
    rfl
  refine pure_ (i := 6) (N := some 8) (v := ?_) (a' := ?_) #[true, true, true, true, true, true, true, true, true, true, false, false, false, false, false, false, false] rfl rfl (by kernel_rfl) (fun _ _ _ h => h) (Or.inl ⟨by rfl, ?_⟩) ?_ ?_
  rotate_left
  · intro w'
    go_simp
    with_reducible rfl
  rotate_left
  · simp only [Act.put, List.setIfInBounds_toArray, List.set_cons_zero, List.set_cons_succ, i64_w, i32_w]
    rfl
  refine one_ (i := 10) (N := some 12) #[true, true, true, true, true, true, true, true, true, true, true, false, false, false, false, false, false] rfl rfl (by kernel_rfl) (by decide) (fun K hK => ?_)
  refine goes_ Tryz.func44 (by kernel_rfl) rfl #[.pointer (some ⟨g, 0, none⟩), .int .i64 1] (by rfl) rfl rfl (by simp only [List.map_toArray, List.map_cons, List.map_nil]; rfl) ?_
  with_reducible refine (cT2 _ _ K3.out).mono ?_
  rintro x w4 ⟨rfl, hk2⟩
  refine ⟨_, rfl, ?_⟩
  have K4 := Aside0.mk hk2
  refine hK.out _ _ ⟨hk2.keep.blk hHeld.1 hE.out.cg (by simp), keep_cell hk2.keep hHeld.2.1 hE.out.cg, keep_cell hk2.keep hHeld.2.2.1 hE.out.tg, hHeld.2.2.2.1.keep hk2.keep, hk2.below⟩ (fun hNow => ?_)
  clear hK K hHeld
  have hHeld := hNow
  clear hNow
  refine norm_ (a' := ?_) ?_ ?_
  rotate_left
  · show Act.put _ (some 12) _ = _
    simp only [Act.put, List.setIfInBounds_toArray, List.set_cons_zero, List.set_cons_succ, i64_w, i32_w]
    rfl
  refine pure_ (i := 11) (N := some 13) (v := ?_) (a' := ?_) #[true, true, true, true, true, true, true, true, true, true, true, true, false, false, false, false, false] rfl rfl (by kernel_rfl) (fun _ _ _ h => h) (Or.inl ⟨by rfl, ?_⟩) ?_ ?_
  rotate_left
  · intro w'
    go_simp
    with_reducible rfl
  rotate_left
  · simp only [Act.put, List.setIfInBounds_toArray, List.set_cons_zero, List.set_cons_succ, i64_w, i32_w]
    rfl
  refine pure_ (i := 12) (N := some 14) (v := ?_) (a' := ?_) #[true, true, true, true, true, true, true, true, true, true, true, true, true, false, false, false, false] rfl rfl (by kernel_rfl) (fun _ _ _ h => h) (Or.inl ⟨by rfl, ?_⟩) ?_ ?_
  rotate_left
  · intro w'
    go_simp
    with_reducible rfl
  rotate_left
  · simp only [Act.put, List.setIfInBounds_toArray, List.set_cons_zero, List.set_cons_succ, i64_w, i32_w]
    rfl
  refine one_ (i := 13) (N := some 15) #[true, true, true, true, true, true, true, true, true, true, true, true, true, true, false, false, false] rfl rfl (by kernel_rfl) (by decide) (fun K hK => ?_)
  have HS3 := Aside0.mk hHeld
  have HR3 := Aside0.mk (Kd.R_keep H.out.2.1.row (g := g) (KeepBut.then K3.out.keep K4.out.keep) (fun k hk2 => by have := hE.out.gl; omega))
  refine value_ (w1 := ?_) (v := ?_) (by rfl) rfl ?_ ?_
  rotate_left 2
  · go_simp
    constructor
    · rfl
    · rfl
  refine hK.out _ _ ⟨blk_alloc hHeld.1 _, cell_below_ (below_alloc (Below.refl _ _) _) hHeld.2.1, cell_below_ (below_alloc (Below.refl _ _) _) hHeld.2.2.1, hHeld.2.2.2.1.below (below_alloc (Below.refl _ _) _), below_alloc hHeld.2.2.2.2 _⟩ (fun hNow => ?_)
  clear hK K hHeld
  have hHeld := hNow
  clear hNow
  refine norm_ (a' := ?_) ?_ ?_
  rotate_left
  · show Act.put _ (some 15) _ = _
    simp only [Act.put, List.setIfInBounds_toArray, List.set_cons_zero, List.set_cons_succ, i64_w, i32_w]
    rfl
  refine one_ (i := 14) (N := some 16) #[true, true, true, true, true, true, true, true, true, true, true, true, true, true, true, false, false] rfl rfl (by kernel_rfl) (by decide) (fun K hK => ?_)
  refine Kd.R_append_step k160 (w0 := w0) w0.heap.size rfl (.tmp 3) (.tmp 15) 101 160 (.agg #[.int .i64 0, .int .i64 0]) 16 (by rfl) Tryz.underlying101 info160 rfl (by decide) (by decide) v l ⟨(n1 : Int), (n2 : Int)⟩ [.int .i64 (n1 : Int), .int .i64 (n2 : Int)] (fun k => wE.heap.size ≤ k) (fun _ => False) rfl rfl (k160_M _ _ _ _) (fun _ h => h.elim) (fun k hk => Nat.le_trans HS3.out.2.2.2.1.1 hk) HR3.out HS3.out.2.2.2.2 HS3.out.2.2.2.2.size (by have := H.out.2.2.2; omega) ?_
  intro v1 w5 hr5 hb5 hg5 hat5
  obtain ⟨gb, cap, rfl⟩ := R_form hr5 (by simp)
  refine hK.out _ _ ⟨blk_grown HS3.out.1 hg5 (own_far HR3.out cb hE.out.cl), (World.cell?_of_block (w := _) (hg5.block cb (blk_lt HS3.out.1) (own_far HR3.out cb hE.out.cl))).trans HS3.out.2.1, (World.cell?_of_block (w := _) (hg5.block tb (Nat.lt_of_lt_of_le (blk_lt hE.out.tp) HS3.out.2.2.2.1.1) (own_far HR3.out tb (blk_lt hE.out.tp)))).trans HS3.out.2.2.1, HS3.out.2.2.2.1.grown hg5 (own_far HR3.out), hb5⟩ (fun hNow => ?_)
  clear hK K hHeld
  have hHeld := hNow
  clear hNow
  refine norm_ (a' := ?_) ?_ ?_
  rotate_left
  · show Act.put _ (some 16) _ = _
    simp only [Act.put, List.setIfInBounds_toArray, List.set_cons_zero, List.set_cons_succ, i64_w, i32_w]
    rfl
  refine pure_ (i := 15) (N := some 17) (v := ?_) (a' := ?_) #[true, true, true, true, true, true, true, true, true, true, true, true, true, true, true, true, false] rfl rfl (by kernel_rfl) (fun _ _ _ h => h) (Or.inl ⟨by rfl, ?_⟩) ?_ ?_
  rotate_left
  · intro w'
    go_simp
    with_reducible rfl
  rotate_left
  · simp only [Act.put, List.setIfInBounds_toArray, List.set_cons_zero, List.set_cons_succ, i64_w, i32_w]
    rfl
  refine last_ (i := 16) (N := none) #[true, true, true, true, true, true, true, true, true, true, true, true, true, true, true, true, true] rfl rfl (by kernel_rfl) (by decide) (fun K hK => ?_)
  have fz := blk_frozen hHeld.1 3
  refine skip_ (w1 := ?_) (by rfl) rfl ?_ ?_
  rotate_left
  · go_simp
    rfl
  refine hK.out _ _ ?_
  clear hK K
  refine done_ (by kernel_rfl) ?_
  clear hHeld
  have H9 := Aside0.mk (And.intro hr5 (And.intro hb5 (And.intro hg5 hat5)))
  clear hr5 hb5 hg5 hat5
  go_wp2_with fail
  go_end0
  refine ⟨rfl, ?_, ⟨by simp [one2]; have := H.out.2.2.2; omega, .slice (some ⟨gb, 0, none⟩) (l.length + 1) cap, ?_, ?_, ?_⟩, ?_⟩
  · exact blk_far (blk_grown (K4.out.tk) H9.out.2.2.1 (own_far HR3.out g hE.out.gl)) (Ne.symm hE.out.cg) _
  · refine blk_put (blk_grown HS3.out.1 H9.out.2.2.1 (own_far HR3.out cb hE.out.cl)) 3 _ (by simp)
  · have h8 := H9.out.1
    rw [List.length_append, List.length_singleton] at h8
    exact Kd.R_far h8 (fun k hk => by have := hE.out.cl; show k ≠ cb; omega) _
  · exact (HS3.out.2.2.2.1.grown H9.out.2.2.1 (own_far HR3.out)).set _ _
  · exact H9.out.2.1.setCell hE.out.hc _
theorem clos3.calls {g cb tb : Nat} {w0 wE : World} {cs : Array Value} (E : CE g cb tb w0 wE) (hcs : 6 < cs.size) (j : Nat) (r : List UInt8) (l : List S161) (w1 : World) (hj : j < 16) (h : ManyI (C1I k161 161 6 104 g cb w0 wE cs) g w0 j ⟨r, 0, false⟩ l w1) :
    Calls Tryz.prog 100 #[.pointer (some ⟨cb, 0, none⟩), .pointer (some ⟨tb, 0, none⟩)] w1 fun x w2 => x = .returned (.tuple #[]) ∧ ManyI (C1I k161 161 6 104 g cb w0 wE cs) g w0 (j + 1) (one3 ⟨r, 0, false⟩ l).1 (one3 ⟨r, 0, false⟩ l).2 w2 := by
  obtain ⟨htk, ⟨hl, v, hC⟩, hbel⟩ := h
  have hT : w1.cell? ⟨tb, 0, none⟩ = some (.pointer (some ⟨g, 0, none⟩)) := E.at hC.mod
  have hV : w1.cell? ⟨cb, 6, none⟩ = some v := by rw [blk_cell hC.blk]; simp [hcs]
  have H := Aside0.mk (And.intro htk (And.intro hC (And.intro hbel hl)))
  have HV := Aside0.mk hV
  have HT := Aside0.mk hT
  clear htk hC hbel hl hV hT
  have hE := E
  replace hE := Aside0.mk hE
  obtain ⟨⟨n1, r1, e1⟩, hk1⟩ : ∃ p, p = textT r 0 := ⟨_, rfl⟩
  obtain ⟨⟨n2, r2, e2⟩, hk2⟩ : ∃ p, p = textT r1 e1 := ⟨_, rfl⟩
  have HF := Aside0.mk (show one3 ⟨r, 0, false⟩ l = (⟨r2, e2, false⟩, l ++ [⟨tx n1, tx n2⟩]) from by unfold one3; dsimp only; rw [← hk1]; dsimp only; rw [← hk2])
  rw [HF.out]
  have cT1 := Text.calls (T := 127) (ex := [.bool false]) (TK3.drew1 H.out.1) (below_drew1 H.out.2.2.1) hE.out.hg
  rw [← hk1] at cT1
  have cT2 := fun (W W2 : World) (k : TKs 127 [.bool false] g r1 e1 w0 W W2) => Text.calls k.tk k.below hE.out.hg
  rw [← hk2] at cT2
  dsimp only at cT1 cT2 ⊢
  clear hk1 hk2
  clear E
  go_enter Tryz.func100, Tryz.ntmps100
  go_wp2_with fail
  refine start_ (n := 15) (S := fun w' => w'.heap[cb]? = some (.cells (cs.setIfInBounds 6 v) 104 (0, 0)) ∧ w'.cell? ⟨cb, 6, none⟩ = some v ∧ w'.cell? ⟨tb, 0, none⟩ = some (.pointer (some ⟨g, 0, none⟩)) ∧ Mod2 g cb wE w' ∧ Below w0.heap.size w0 w') (ds := [14]) #[false, false, false, false, false, false, false, false, false, false, false, false, false, false, false] (by kernel_rfl) rfl rfl ⟨(show w1.drew.heap[cb]? = _ from H.out.2.1.blk), (cell_below_ (below_drew1 (Below.refl _ _)) HV.out), (cell_below_ (below_drew1 (Below.refl _ _)) HT.out), (H.out.2.1.mod.below (below_drew1 (Below.refl _ _))), (below_drew1 H.out.2.2.1)⟩ (fun hHeld => ?_)
  refine pure_ (i := 0) (N := some 2) (v := ?_) (a' := ?_) #[true, false, false, false, false, false, false, false, false, false, false, false, false, false, false] rfl rfl (by kernel_rfl) (fun _ _ _ h => h) (Or.inl ⟨by rfl, ?_⟩) ?_ ?_
  rotate_left
  · intro w'
    go_simp
    with_reducible rfl
  rotate_left
  · simp only [Act.put, List.setIfInBounds_toArray, List.set_cons_zero, List.set_cons_succ, i64_w, i32_w]
    rfl
  refine take_ (i := 1) (N := some 3) (v := ?_) (a' := ?_) #[true, true, false, false, false, false, false, false, false, false, false, false, false, false, false] rfl rfl (by kernel_rfl) (fun _ _ _ h => h) (Or.inl ⟨by rfl, ?_⟩) hHeld ?_ ?_
  rotate_left
  · rintro w' ⟨s0, s1, s2, s3, s4⟩
    go_simp
    with_reducible rfl
  rotate_left
  · simp only [Act.put, List.setIfInBounds_toArray, List.set_cons_zero, List.set_cons_succ, i64_w, i32_w]
    rfl
  refine take_ (i := 2) (N := some 4) (v := ?_) (a' := ?_) #[true, true, true, false, false, false, false, false, false, false, false, false, false, false, false] rfl rfl (by kernel_rfl) (fun _ _ _ h => h) (Or.inl ⟨by rfl, ?_⟩) hHeld ?_ ?_
  rotate_left
  · rintro w' ⟨s0, s1, s2, s3, s4⟩
    go_simp
    with_reducible rfl
  rotate_left
  · simp only [Act.put, List.setIfInBounds_toArray, List.set_cons_zero, List.set_cons_succ, i64_w, i32_w]
    rfl
  refine pure_ (i := 3) (N := some 5) (v := ?_) (a' := ?_) #[true, true, true, true, false, false, false, false, false, false, false, false, false, false, false] rfl rfl (by kernel_rfl) (fun _ _ _ h => h) (Or.inl ⟨by rfl, ?_⟩) ?_ ?_
  rotate_left
  · intro w'
    go_simp
    with_reducible rfl
  rotate_left
  · simp only [Act.put, List.setIfInBounds_toArray, List.set_cons_zero, List.set_cons_succ, i64_w, i32_w]
    rfl
  refine pure_ (i := 4) (N := some 6) (v := ?_) (a' := ?_) #[true, true, true, true, true, false, false, false, false, false, false, false, false, false, false] rfl rfl (by kernel_rfl) (fun _ _ _ h => h) (Or.inl ⟨by rfl, ?_⟩) ?_ ?_
  rotate_left
  · intro w'
    go_simp
    with_reducible rfl
  rotate_left
  · simp only [Act.put, List.setIfInBounds_toArray, List.set_cons_zero, List.set_cons_succ, i64_w, i32_w]
    rfl
  refine take_ (i := 6) (N := some 8) (v := ?_) (a' := ?_) #[true, true, true, true, true, false, true, false, false, false, false, false, false, false, false] rfl rfl (by kernel_rfl) (fun _ _ _ h => h) (Or.inl ⟨by rfl, ?_⟩) hHeld ?_ ?_
  rotate_left
  · rintro w' ⟨s0, s1, s2, s3, s4⟩
    go_simp
    with_reducible rfl
  rotate_left
  · simp only [Act.put, List.setIfInBounds_toArray, List.set_cons_zero, List.set_cons_succ, i64_w, i32_w]
    rfl
  refine pure_ (i := 7) (N := some 9) (v := ?_) (a' := ?_) #[true, true, true, true, true, false, true, true, false, false, false, false, false, false, false] rfl rfl (by kernel_rfl) (fun _ _ _ h => h) (Or.inl ⟨by rfl, ?_⟩) ?_ ?_
  rotate_left
  · intro w'
    go_simp
    with_reducible rfl
  rotate_left
  · simp only [Act.put, List.setIfInBounds_toArray, List.set_cons_zero, List.set_cons_succ, i64_w, i32_w]
    rfl
  refine pure_ (i := 8) (N := some 10) (v := ?_) (a' := ?_) #[true, true, true, true, true, false, true, true, true, false, false, false, false, false, false] rfl rfl (by kernel_rfl) (fun _ _ _ h => h) (Or.inl ⟨by rfl, ?_⟩) ?_ ?_
  rotate_left
  · intro w'
    go_simp
    with_reducible rfl
  rotate_left
  · simp only [Act.put, List.setIfInBounds_toArray, List.set_cons_zero, List.set_cons_succ, i64_w, i32_w]
    rfl
  refine one_ (i := 5) (N := some 7) #[true, true, true, true, true, true, true, true, true, false, false, false, false, false, false] rfl rfl (by kernel_rfl) (by decide) (fun K hK => ?_)
  refine goes_ Tryz.func46 (by kernel_rfl) rfl #[.pointer (some ⟨g, 0, none⟩)] (by rfl) rfl rfl (by simp only [List.map_toArray, List.map_cons, List.map_nil]; rfl) ?_
  with_reducible refine (cT1).mono ?_
  rintro x w3 ⟨rfl, hk⟩
  refine ⟨_, rfl, ?_⟩
  have K3 := Aside0.mk hk
  refine hK.out _ _ ⟨hk.keep.blk hHeld.1 hE.out.cg (by simp), keep_cell hk.keep hHeld.2.1 hE.out.cg, keep_cell hk.keep hHeld.2.2.1 hE.out.tg, hHeld.2.2.2.1.keep hk.keep, hk.below⟩ (fun hNow => ?_)
  clear hK K hHeld
  have hHeld := hNow
  clear hNow
  refine norm_ (a' := ?_) ?_ ?_
  rotate_left
  · show Act.put _ (some 7) _ = _
    simp only [Act.put, List.setIfInBounds_toArray, List.set_cons_zero, List.set_cons_succ, i64_w, i32_w]
    rfl
  refine one_ (i := 9) (N := some 11) #[true, true, true, true, true, true, true, true, true, true, false, false, false, false, false] rfl rfl (by kernel_rfl) (by decide) (fun K hK => ?_)
  refine goes_ Tryz.func46 (by kernel_rfl) rfl #[.pointer (some ⟨g, 0, none⟩)] (by rfl) rfl rfl (by simp only [List.map_toArray, List.map_cons, List.map_nil]; rfl) ?_
  with_reducible refine (cT2 _ _ K3.out).mono ?_
  rintro x w4 ⟨rfl, hk2⟩
  refine ⟨_, rfl, ?_⟩
  have K4 := Aside0.mk hk2
  refine hK.out _ _ ⟨hk2.keep.blk hHeld.1 hE.out.cg (by simp), keep_cell hk2.keep hHeld.2.1 hE.out.cg, keep_cell hk2.keep hHeld.2.2.1 hE.out.tg, hHeld.2.2.2.1.keep hk2.keep, hk2.below⟩ (fun hNow => ?_)
  clear hK K hHeld
  have hHeld := hNow
  clear hNow
  refine norm_ (a' := ?_) ?_ ?_
  rotate_left
  · show Act.put _ (some 11) _ = _
    simp only [Act.put, List.setIfInBounds_toArray, List.set_cons_zero, List.set_cons_succ, i64_w, i32_w]
    rfl
  refine pure_ (i := 10) (N := some 12) (v := ?_) (a' := ?_) #[true, true, true, true, true, true, true, true, true, true, true, false, false, false, false] rfl rfl (by kernel_rfl) (fun _ _ _ h => h) (Or.inl ⟨by rfl, ?_⟩) ?_ ?_
  rotate_left
  · intro w'
    go_simp
    with_reducible rfl
  rotate_left
  · simp only [Act.put, List.setIfInBounds_toArray, List.set_cons_zero, List.set_cons_succ, i64_w, i32_w]
    rfl
  refine one_ (i := 11) (N := some 13) #[true, true, true, true, true, true, true, true, true, true, true, true, false, false, false] rfl rfl (by kernel_rfl) (by decide) (fun K hK => ?_)
  have HS3 := Aside0.mk hHeld
  have HR3 := Aside0.mk (Kd.R_keep H.out.2.1.row (g := g) (KeepBut.then K3.out.keep K4.out.keep) (fun k hk2 => by have := hE.out.gl; omega))
  refine value_ (w1 := ?_) (v := ?_) (by rfl) rfl ?_ ?_
  rotate_left 2
  · go_simp
    constructor
    · rfl
    · rfl
  refine hK.out _ _ ⟨blk_alloc hHeld.1 _, cell_below_ (below_alloc (Below.refl _ _) _) hHeld.2.1, cell_below_ (below_alloc (Below.refl _ _) _) hHeld.2.2.1, hHeld.2.2.2.1.below (below_alloc (Below.refl _ _) _), below_alloc hHeld.2.2.2.2 _⟩ (fun hNow => ?_)
  clear hK K hHeld
  have hHeld := hNow
  clear hNow
  refine norm_ (a' := ?_) ?_ ?_
  rotate_left
  · show Act.put _ (some 13) _ = _
    simp only [Act.put, List.setIfInBounds_toArray, List.set_cons_zero, List.set_cons_succ, i64_w, i32_w]
    rfl
  refine one_ (i := 12) (N := some 14) #[true, true, true, true, true, true, true, true, true, true, true, true, true, false, false] rfl rfl (by kernel_rfl) (by decide) (fun K hK => ?_)
  refine Kd.R_append_step k161 (w0 := w0) w0.heap.size rfl (.tmp 3) (.tmp 13) 102 161 (.agg #[.string ⟨#[]⟩, .string ⟨#[]⟩]) 32 (by rfl) Tryz.underlying102 info161 rfl (by decide) (by decide) v l ⟨tx n1, tx n2⟩ [.string (tx n1), .string (tx n2)] (fun k => wE.heap.size ≤ k) (fun _ => False) rfl rfl (k161_M _ _ _ _) (fun _ h => h.elim) (fun k hk => Nat.le_trans HS3.out.2.2.2.1.1 hk) HR3.out HS3.out.2.2.2.2 HS3.out.2.2.2.2.size (by have := H.out.2.2.2; omega) ?_
  intro v1 w5 hr5 hb5 hg5 hat5
  obtain ⟨gb, cap, rfl⟩ := R_form hr5 (by simp)
  refine hK.out _ _ ⟨blk_grown HS3.out.1 hg5 (own_far HR3.out cb hE.out.cl), (World.cell?_of_block (w := _) (hg5.block cb (blk_lt HS3.out.1) (own_far HR3.out cb hE.out.cl))).trans HS3.out.2.1, (World.cell?_of_block (w := _) (hg5.block tb (Nat.lt_of_lt_of_le (blk_lt hE.out.tp) HS3.out.2.2.2.1.1) (own_far HR3.out tb (blk_lt hE.out.tp)))).trans HS3.out.2.2.1, HS3.out.2.2.2.1.grown hg5 (own_far HR3.out), hb5⟩ (fun hNow => ?_)
  clear hK K hHeld
  have hHeld := hNow
  clear hNow
  refine norm_ (a' := ?_) ?_ ?_
  rotate_left
  · show Act.put _ (some 14) _ = _
    simp only [Act.put, List.setIfInBounds_toArray, List.set_cons_zero, List.set_cons_succ, i64_w, i32_w]
    rfl
  refine pure_ (i := 13) (N := some 15) (v := ?_) (a' := ?_) #[true, true, true, true, true, true, true, true, true, true, true, true, true, true, false] rfl rfl (by kernel_rfl) (fun _ _ _ h => h) (Or.inl ⟨by rfl, ?_⟩) ?_ ?_
  rotate_left
  · intro w'
    go_simp
    with_reducible rfl
  rotate_left
  · simp only [Act.put, List.setIfInBounds_toArray, List.set_cons_zero, List.set_cons_succ, i64_w, i32_w]
    rfl
  refine last_ (i := 14) (N := none) #[true, true, true, true, true, true, true, true, true, true, true, true, true, true, true] rfl rfl (by kernel_rfl) (by decide) (fun K hK => ?_)
  have fz := blk_frozen hHeld.1 6
  refine skip_ (w1 := ?_) (by rfl) rfl ?_ ?_
  rotate_left
  · go_simp
    rfl
  refine hK.out _ _ ?_
  clear hK K
  refine done_ (by kernel_rfl) ?_
  clear hHeld
  have H9 := Aside0.mk (And.intro hr5 (And.intro hb5 (And.intro hg5 hat5)))
  clear hr5 hb5 hg5 hat5
  go_wp2_with fail
  go_end0
  refine ⟨rfl, ?_, ⟨by simp [one3]; have := H.out.2.2.2; omega, .slice (some ⟨gb, 0, none⟩) (l.length + 1) cap, ?_, ?_, ?_⟩, ?_⟩
  · exact blk_far (blk_grown (K4.out.tk) H9.out.2.2.1 (own_far HR3.out g hE.out.gl)) (Ne.symm hE.out.cg) _
  · refine blk_put (blk_grown HS3.out.1 H9.out.2.2.1 (own_far HR3.out cb hE.out.cl)) 6 _ (by simp)
  · have h8 := H9.out.1
    rw [List.length_append, List.length_singleton] at h8
    exact Kd.R_far h8 (fun k hk => by have := hE.out.cl; show k ≠ cb; omega) _
  · exact (HS3.out.2.2.2.1.grown H9.out.2.2.1 (own_far HR3.out)).set _ _
  · exact H9.out.2.1.setCell hE.out.hc _
end Go.Proofs.YtlmeelmjodjfpaaGreatDoor.PB
end
