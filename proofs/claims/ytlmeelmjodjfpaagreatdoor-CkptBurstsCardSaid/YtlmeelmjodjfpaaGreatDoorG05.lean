/- CkptBursts, part 6 of 24 of its proof: for every input that meets the row's condition (laid, tied) the call returns true and each argument reads behind it as before. -/
import Derived.Test.YtlmeelmjodjfpaaGreatDoorG03
import Derived.Test.YtlmeelmjodjfpaaGreatDoorG04
import Derived.RangeFuncOwn
namespace Go.Proofs.YtlmeelmjodjfpaaGreatDoor.PB
open Go.RowKit Go.Proofs.YtlmeelmjodjfpaaGreatDoorW.PrintWords Go.Proofs.YtlmeelmjodjfpaaGreatDoorW.PrintLast Go.Proofs.YtlmeelmjodjfpaaGreatDoorW.PrintMore
open Fr (tx tx_list tx_size tx_app be1 be2 be4 put1 put2 put4)
set_option linter.unusedVariables false
set_option linter.unusedSimpArgs false
theorem cell_stays {w w' : World} (hb : Below w.heap.size w w') {a : Addr} {u : Value} (h : w.cell? a = some u) : w'.cell? a = some u := by
  obtain ⟨o, ho, _⟩ := cells_of_cell h
  exact (hb.cell (p := a) (Array.getElem?_eq_some_iff.1 ho).1).trans h
/-- Block b holds a writer in which l was written; below w0 all is as it was. -/
def WS (w0 : World) (b : Nat) (l : List UInt8) (w : World) : Prop := Below w0.heap.size w0 w ∧ Lib.IsBuilderF 167 5 w0.heap.size b (Lib.byteCells l) w
/-- Whatever is not the writer's lies as it lay. -/
def KO (b : Nat) (w w' : World) : Prop := Lib.OthersKept 5 (some b) w w'
theorem KO.refl (b : Nat) (w : World) : KO b w w := Lib.OthersKept.refl _ _ _
theorem KO.trans {b : Nat} {u v w : World} (h : KO b u v) (k : KO b v w) : KO b u w := Lib.OthersKept.trans h k
theorem KO.below {b : Nat} {u v w : World} (h : KO b u v) (hb : Below v.heap.size v w) : KO b u w := by
  intro k o hk hn ht
  have h1 := h k o hk hn ht
  exact (hb.block k (Array.getElem?_eq_some_iff.1 h1).1).trans h1
theorem KO.drew {b : Nat} {u v : World} (h : KO b u v) : KO b u v.drew := h
theorem KO.keep {b : Nat} {u v : World} (h : KO b u v) {g : Nat} {cs : Array Value} {t : TypeId} {fz : Nat × Nat} (hx : u.heap[g]? = some (.cells cs t fz)) (hn : g ≠ b) (ht : t ≠ 5) : v.heap[g]? = some (.cells cs t fz) :=
  h g _ hx (fun e => hn (Option.some.inj e)) (fun c f e => ht (by injection e))
theorem IsB_below {T e : TypeId} {B b : Nat} {bs : List Value} {w w' : World} (h : Lib.IsBuilderF T e B b bs w) (hb : Below w.heap.size w w') : Lib.IsBuilderF T e B b bs w' := by
  have key : ∀ p, Lib.BuilderAtF T e B b p bs w → Lib.BuilderAtF T e B b p bs w' := by
    intro p ⟨hB, v, hbk, hown, hne⟩
    refine ⟨hB, v, (hb.block b (Array.getElem?_eq_some_iff.1 hbk).1).trans hbk, ⟨hown.1, ?_⟩, hne⟩
    rcases hown.2 with hn | ⟨g, cap, cur, fz, hv, hbg, hg, rest⟩
    · exact .inl hn
    · exact .inr ⟨g, cap, cur, fz, hv, hbg, (hb.block g (Array.getElem?_eq_some_iff.1 hg).1).trans hg, rest⟩
  exact h.elim (fun x => .inl (key _ x)) (fun x => .inr (key _ x))
theorem WS.below {w0 : World} {b : Nat} {l : List UInt8} {w w' : World} (h : WS w0 b l w) (hb : Below w.heap.size w w') : WS w0 b l w' := ⟨below_step h.1 hb, IsB_below h.2 hb⟩
theorem WS.drew {w0 : World} {b : Nat} {l : List UInt8} {w : World} (h : WS w0 b l w) : WS w0 b l w.drew := h.below (below_drew1 (Below.refl _ _))
theorem WS.lt {w0 : World} {b : Nat} {l : List UInt8} {w : World} (h : WS w0 b l w) : b < w.heap.size := h.2.elim (fun x => x.lt) (fun x => x.lt)
theorem cells_cat (l m : List UInt8) : Lib.byteCells l ++ Lib.strCells (tx m) = Lib.byteCells (l ++ m) := by
  rw [show Lib.strCells (tx m) = Lib.byteCells m from rfl]; simp [Lib.byteCells]
set_option maxHeartbeats 1000000
set_option maxRecDepth 100000
/-- What a step of the writer's comes to. -/
def Wrote (w0 : World) (b : Nat) (l m : List UInt8) (w w' : World) : Prop := ∃ l', Aside0 (l' = l ++ m) ∧ l'.length = l.length + m.length ∧ WS w0 b l' w' ∧ KO b w w'
theorem wrote_mk {w0 : World} {b : Nat} {l m : List UInt8} {w w' : World} (h : WS w0 b (l ++ m) w') (k : KO b w w') : Wrote w0 b l m w w' := ⟨_, ⟨rfl⟩, by simp, h, k⟩
theorem wWrite (w0 : World) (b : Nat) (l m : List UInt8) (w : World) (h : WS w0 b l w) (hlen : l.length + m.length ≤ 140737488355328) :
    Calls Tryz.prog 75 #[.pointer (some ⟨b, 0, none⟩), .string (tx m)] w fun e w' => e = .returned (.tuple #[.int .i64 (tx m).size, .nilIface]) ∧ WS w0 b (l ++ m) w' ∧ KO b w w' := by
  refine (WriteString.calls bld167 w0.heap.size b (Lib.byteCells l) (tx m) w h.2 (by rw [Lib.byteCells_length, tx_size]; exact hlen) h.1.size).mono ?_
  rintro e w' ⟨rfl, h1, h2, h3⟩
  rw [cells_cat] at h1
  exact ⟨rfl, ⟨h.1.trans h2, .inr h1⟩, h3⟩
def be8 (v : Nat) : List UInt8 := be4 (v / 4294967296) ++ be4 v
theorem put8 (k : Nat) (v : Nat) (hk : 10 ≤ k) : pack_Put.f k 8 (v : Int) = some (tx (be8 v)) := by
  have h := Fr.put_tells 8 v k (by omega) hk
  rw [show ((8 : Nat) : Int) = 8 from rfl] at h
  rw [h]
  simp only [Fr.fill, List.replicate, List.set, Nat.mul_zero, Nat.pow_zero, Nat.div_one, Nat.sub_self]
  have e : ∀ a b, v / 4294967296 / a % b = v / (4294967296 * a) % b := fun a b => by rw [Nat.div_div_eq_div_mul]
  unfold be8 be4
  rw [e, e, e]
  rfl
/-- The bytes of a number. -/
def numP (n v : Nat) : List UInt8 := if n = 1 then be1 v else if n = 2 then be2 v else if n = 4 then be4 v else be8 v
theorem put_num (n v : Nat) (hn : n = 1 ∨ n = 2 ∨ n = 4 ∨ n = 8) : pack_Put.f 10 (n : Int) (v : Int) = some (tx (numP n v)) := by
  rcases hn with rfl | rfl | rfl | rfl
  · exact put1 10 v (by omega)
  · exact put2 10 v (by omega)
  · exact put4 10 v (by omega)
  · exact put8 10 v (by omega)
theorem numP_length (n v : Nat) (hn : n = 1 ∨ n = 2 ∨ n = 4 ∨ n = 8) : (numP n v).length = n := by
  rcases hn with rfl | rfl | rfl | rfl <;> rfl
theorem numP1_length (v : Nat) : (numP 1 v).length = 1 := rfl
theorem numP2_length (v : Nat) : (numP 2 v).length = 2 := rfl
theorem numP4_length (v : Nat) : (numP 4 v).length = 4 := rfl
theorem numP8_length (v : Nat) : (numP 8 v).length = 8 := rfl
theorem writer_number.calls (w0 : World) (b : Nat) (l : List UInt8) (n v : Nat) (w : World) (h : WS w0 b l w) (hn : n = 1 ∨ n = 2 ∨ n = 4 ∨ n = 8) (hlen : l.length + n ≤ 140737488355328) :
    Calls Tryz.prog 73 #[.pointer (some ⟨b, 0, none⟩), .int .i64 (n : Int), .int .u64 (v : Int)] w fun e w' => e = .returned (.tuple #[]) ∧ Wrote w0 b l (numP n v) w w' := by
  have cP := fun W => pack_Put.calls 10 (n : Int) (v : Int) _ W (put_num n v hn)
  have HL := Aside0.mk (numP_length n v hn)
  have H := Aside0.mk h
  clear h hn
  go_enter Tryz.func73, Tryz.ntmps73
  go_wp2_with fail
  refine start_ (n := 7) (S := fun w' => WS w0 b l w' ∧ KO b w w') (ds := [6]) #[false, false, false, false, false, false, false] (by kernel_rfl) rfl rfl ⟨H.out.drew, (KO.refl b w).drew⟩ (fun hHeld => ?_)
  refine pure_ (i := 0) (N := some 6) (v := ?_) (a' := ?_) #[true, false, false, false, false, false, false] rfl rfl (by kernel_rfl) (fun _ _ _ h => h) (Or.inl ⟨by rfl, ?_⟩) ?_ ?_
  rotate_left
  · intro w'
    go_simp
    with_reducible rfl
  rotate_left
  · simp only [Act.put, List.setIfInBounds_toArray, List.set_cons_zero, List.set_cons_succ, i64_w, i32_w]
    rfl
  refine pure_ (i := 1) (N := some 7) (v := ?_) (a' := ?_) #[true, true, false, false, false, false, false] rfl rfl (by kernel_rfl) (fun _ _ _ h => h) (Or.inl ⟨by rfl, ?_⟩) ?_ ?_
  rotate_left
  · intro w'
    go_simp
    with_reducible rfl
  rotate_left
  · simp only [Act.put, List.setIfInBounds_toArray, List.set_cons_zero, List.set_cons_succ, i64_w, i32_w]
    rfl
  refine pure_ (i := 2) (N := some 8) (v := ?_) (a' := ?_) #[true, true, true, false, false, false, false] rfl rfl (by kernel_rfl) (fun _ _ _ h => h) (Or.inl ⟨by rfl, ?_⟩) ?_ ?_
  rotate_left
  · intro w'
    go_simp
    with_reducible rfl
  rotate_left
  · simp only [Act.put, List.setIfInBounds_toArray, List.set_cons_zero, List.set_cons_succ, i64_w, i32_w]
    rfl
  refine pure_ (i := 3) (N := some 9) (v := ?_) (a' := ?_) #[true, true, true, true, false, false, false] rfl rfl (by kernel_rfl) (fun _ _ _ h => h) (Or.inl ⟨by rfl, ?_⟩) ?_ ?_
  rotate_left
  · intro w'
    go_simp
    with_reducible rfl
  rotate_left
  · simp only [Act.put, List.setIfInBounds_toArray, List.set_cons_zero, List.set_cons_succ, i64_w, i32_w]
    rfl
  refine pure_ (i := 4) (N := some 10) (v := ?_) (a' := ?_) #[true, true, true, true, true, false, false] rfl rfl (by kernel_rfl) (fun _ _ _ h => h) (Or.inl ⟨by rfl, ?_⟩) ?_ ?_
  rotate_left
  · intro w'
    go_simp
    with_reducible rfl
  rotate_left
  · simp only [Act.put, List.setIfInBounds_toArray, List.set_cons_zero, List.set_cons_succ, i64_w, i32_w]
    rfl
  refine one_ (i := 5) (N := some 11) #[true, true, true, true, true, true, false] rfl rfl (by kernel_rfl) (by decide) (fun K hK => ?_)
  refine goes_ Tryz.func79 (by kernel_rfl) rfl #[.int .i64 (n : Int), .int .u64 (v : Int)] (by rfl) rfl rfl (by simp only [List.map_toArray, List.map_cons, List.map_nil]; rfl) ?_
  with_reducible refine (cP _).mono ?_
  rintro e w3 ⟨rfl, hb⟩
  refine ⟨_, rfl, ?_⟩
  refine hK.out _ _ ⟨hHeld.1.below hb, hHeld.2.below hb⟩ (fun hNow => ?_)
  clear hK K hHeld
  have hHeld := hNow
  clear hNow
  refine norm_ (a' := ?_) ?_ ?_
  rotate_left
  · show Act.put _ (some 11) _ = _
    simp only [Act.put, List.setIfInBounds_toArray, List.set_cons_zero, List.set_cons_succ, i64_w, i32_w]
    rfl
  refine last_ (i := 6) (N := some 12) #[true, true, true, true, true, true, true] rfl rfl (by kernel_rfl) (by decide) (fun K hK => ?_)
  refine goes_ Tryz.func75 (by kernel_rfl) rfl #[.pointer (some ⟨b, 0, none⟩), .string (tx (numP n v))] (by rfl) rfl rfl (by simp only [List.map_toArray, List.map_cons, List.map_nil]; rfl) ?_
  with_reducible refine (wWrite w0 b l (numP n v) _ hHeld.1 (by rw [HL.out]; exact hlen)).mono ?_
  rintro e w4 ⟨rfl, hws, hk4⟩
  refine ⟨_, rfl, ?_⟩
  have hko := hHeld.2.trans hk4
  refine hK.out _ _ ?_
  clear hK K
  refine norm_ (a' := ?_) ?_ ?_
  rotate_left
  · show Act.put _ (some 12) _ = _
    simp only [Act.put, List.setIfInBounds_toArray, List.set_cons_zero, List.set_cons_succ, i64_w, i32_w]
    rfl
  refine done_ (by kernel_rfl) ?_
  clear hHeld cP H
  have H8 := Aside0.mk hws
  have H9 := Aside0.mk hko
  clear hws hko
  go_wp2_with fail
  go_end0
  exact ⟨rfl, wrote_mk H8.out H9.out⟩
/-- The bytes of a text: none, where it is too long. -/
def textB (s : ByteArray) : List UInt8 := if 4096 < s.size then [] else be2 s.size ++ s.data.toList
def textErr (s : ByteArray) : Int := if 4096 < s.size then 2 else 0
def textsB (xs : List ByteArray) : List UInt8 := (xs.map textB).flatten
theorem textB_length (s : ByteArray) : (textB s).length ≤ 4098 := by
  unfold textB
  split
  · simp
  · rename_i h
    have : s.data.toList.length = s.size := by rw [Array.length_toList]; rfl
    simp only [List.length_append, this, be2]
    simp
    omega
theorem text_put (s : ByteArray) : pack_Text.f 10 s = some (tx (textB s), textErr s) := by
  unfold pack_Text.f textB textErr
  by_cases h : 4096 < s.size
  · rw [if_pos (by omega), if_pos h, if_pos h]; rfl
  · rw [if_neg (by omega), if_neg h, if_neg h, Fr.u64_nat _ (by omega), put2 10 _ (by omega)]
    simp only [Option.bind_some]
    have e2 : (tx (be2 s.size)).size = 2 := by rw [tx_size]; rfl
    rw [if_pos (by omega)]
    have e3 : tx (be2 s.size) ++ s = tx (be2 s.size ++ s.data.toList) := by
      rw [← tx_app, Fr.tx_of]
    rw [e3]
theorem textsB_step (xs : List ByteArray) (j : Nat) (h : j < xs.length) : textsB (xs.take (j + 1)) = textsB (xs.take j) ++ textB (rdOf ByteArray.empty xs (j : Int)) := by
  unfold textsB
  have e : rdOf ByteArray.empty xs (j : Int) = xs[j] := by simp [rdOf, List.getD, List.getElem?_eq_getElem h]
  rw [e, List.take_succ_eq_append_getElem h]
  simp only [List.map_append, List.map_cons, List.map_nil, List.flatten_append, List.flatten_cons, List.flatten_nil, List.append_nil]
theorem textsB_length (xs : List ByteArray) : (textsB xs).length ≤ 4098 * xs.length := by
  induction xs with
  | nil => simp [textsB]
  | cons x r ih =>
    have := textB_length x
    simp only [textsB, List.map_cons, List.flatten_cons, List.length_append, List.length_cons] at ih ⊢
    omega
theorem writer_text.calls (w0 : World) (b : Nat) (l : List UInt8) (A1 : Option Addr) (c : Nat) (xs : List ByteArray) (w : World) (h : WS w0 b l w)
    (hS : ∀ w', Below w0.heap.size w0 w' → KO b w w' → Kd.string.C w' A1 xs.length xs) (hx : xs.length ≤ 1000000) (hlen : l.length + 4098 * xs.length ≤ 140737488355328) :
    Calls Tryz.prog 74 #[.pointer (some ⟨b, 0, none⟩), .slice A1 xs.length c] w fun e w' => e = .returned (.tuple #[]) ∧ Wrote w0 b l (textsB xs) w w' := by
  have H := Aside0.mk (And.intro h (KO.refl b w))
  have HS := Aside0.mk hS
  clear h hS
  go_enter Tryz.func74, Tryz.ntmps74
  go_wp2_with fail
  go_loopw [10] (fun v10 wr => ∃ j : Nat, v10 = .int .i64 (j : Int) ∧ j ≤ xs.length ∧ Aside0 (WS w0 b (l ++ textsB (xs.take j)) wr ∧ KO b w wr)) (fun v10 _ => xs.length - (intOf v10).toNat)
  case atStart => exact ⟨0, rfl, Nat.zero_le _, ⟨by simpa [textsB] using H.out.1, H.out.2⟩⟩
  case round =>
    clear H
    obtain ⟨j, rfl, hj, HX⟩ := hrel
    by_cases hlt : j < xs.length
    · have hlt2 : (j : Int) < (xs.length : Int) := by omega
      have hj0 : (0 : Int) ≤ (j : Int) := by omega
      obtain ⟨ad, ea, hcell⟩ := Kd.at_string (HS.out wr HX.out.1.1 HX.out.2) (j : Int) hj0 hlt2
      subst ea
      rw [Int.toNat_natCast] at hcell
      have HE := Aside0.mk (textsB_step xs j hlt)
      have hL1 := textsB_length (xs.take j)
      rw [List.length_take, Nat.min_eq_left hj] at hL1
      generalize rdOf ByteArray.empty xs (j : Int) = s at hcell HE
      have hL2 := textB_length s
      have cT := fun W => pack_Text.calls 10 s (tx (textB s)) (textErr s) W (text_put s)
      have hbig : (l ++ textsB (xs.take j)).length + (textB s).length ≤ 140737488355328 := by rw [List.length_append]; omega
      have HBIG := Aside0.mk hbig
      clear hbig hL1 hL2
      go_wp2_with (go_at_call 81; refine (cT _).mono ?_; rintro e w2 ⟨rfl, hb⟩; have HX2 := Aside0.mk (And.intro (HX.out.1.below hb) (HX.out.2.below hb)); clear hb)
      clear cT hcell HX
      go_wp2_with (go_at_call 75; refine (wWrite w0 b _ (textB s) _ HX2.out.1 HBIG.out).mono ?_; rintro e w3 ⟨rfl, h1, h2⟩; have HX3 := Aside0.mk (And.intro h1 (HX2.out.2.trans h2)); clear h1 h2)
      have hw1 : wrap64 ((j : Int) + 1) = ((j + 1 : Nat) : Int) := by unfold wrap64; omega
      go_roundw
      case rel => exact ⟨j + 1, by simp [hw1], hlt, ⟨by rw [HE.out, ← List.append_assoc]; exact HX3.out.1, HX3.out.2⟩⟩
      case measure => simp [intOf, hw1]; omega
    · have hlt7 : ¬ (j : Int) < (xs.length : Int) := by omega
      have HZ := Aside0.mk (show xs.take j = xs from List.take_of_length_le (by omega))
      go_wp2_with fail
      go_end0
      exact ⟨rfl, wrote_mk (by rw [← HZ.out]; exact HX.out.1) HX.out.2⟩
theorem strs_of {W : World} {g : Nat} {xs : List ByteArray} {fz : Nat × Nat} (h : W.heap[g]? = some (.cells (xs.map Value.string).toArray 9 fz)) (hx : xs.length ≤ 1000000) : Kd.string.C W (some ⟨g, 0, none⟩) xs.length xs := by
  refine Kd.C_of_reads (enc := Value.string) (d := ByteArray.empty) (h1 := fun _ => rfl) ⟨rfl, by omega, fun _ => ⟨_, rfl, fun j hj => ?_⟩⟩
  rw [show (Addr.mk g 0 none).add j = ⟨g, j, none⟩ from by unfold Addr.add; split <;> simp_all, Lib.cell_of_heap h]
  simp [List.getD, List.getElem?_eq_getElem hj]
/-- How a number stands in a call: as it is, or wrapped. -/
def uN (v : Int) : Nat := (IntKind.u64.wrap v).toNat
theorem uN_cast (v : Int) : IntKind.u64.wrap v = ((uN v : Nat) : Int) := by
  unfold uN
  rw [Int.toNat_of_nonneg]
  have e : IntKind.u64.wrap v = v % 18446744073709551616 := by simp [IntKind.wrap, IntKind.signed, IntKind.bits]
  omega
theorem writer_numberW.calls (w0 : World) (b : Nat) (l : List UInt8) (n : Nat) (v : Int) (w : World) (h : WS w0 b l w) (hn : n = 1 ∨ n = 2 ∨ n = 4 ∨ n = 8) (hlen : l.length + n ≤ 140737488355328) :
    Calls Tryz.prog 73 #[.pointer (some ⟨b, 0, none⟩), .int .i64 (n : Int), .int .u64 (IntKind.u64.wrap v)] w fun e w' => e = .returned (.tuple #[]) ∧ Wrote w0 b l (numP n (uN v)) w w' := by
  rw [uN_cast]
  exact writer_number.calls w0 b l n _ w h hn hlen
/-- What a writing function keeps: the writer, whatever else lay, a box of its own. -/
def CS (w0 w : World) (b pb : Nat) (o : Obj) (l : List UInt8) (w' : World) : Prop := WS w0 b l w' ∧ KO b w w' ∧ w'.heap[pb]? = some o ∧ pb ≠ b ∧ ∃ cs t fz, o = .cells cs t fz ∧ t ≠ 5
theorem CS.ws {w0 w : World} {b pb : Nat} {o : Obj} {l : List UInt8} {w1 : World} (h : CS w0 w b pb o l w1) : WS w0 b l w1 := h.1
theorem CS.below {w0 w : World} {b pb : Nat} {o : Obj} {l : List UInt8} {w1 w2 : World} (h : CS w0 w b pb o l w1) (hb : Below w1.heap.size w1 w2) : CS w0 w b pb o l w2 :=
  ⟨h.1.below hb, h.2.1.below hb, (hb.block pb (Array.getElem?_eq_some_iff.1 h.2.2.1).1).trans h.2.2.1, h.2.2.2⟩
theorem CS.step {w0 w : World} {b pb : Nat} {o : Obj} {l l' : List UInt8} {w1 w2 : World} (h : CS w0 w b pb o l w1) (hw : WS w0 b l' w2) (hk : KO b w1 w2) : CS w0 w b pb o l' w2 := by
  obtain ⟨_, h2, h3, h4, cs, t, fz, rfl, ht⟩ := h
  exact ⟨hw, h2.trans hk, hk.keep h3 h4 ht, h4, cs, t, fz, rfl, ht⟩
theorem CS.alloc {w0 w : World} {b pb : Nat} {o : Obj} {l : List UInt8} {w1 : World} (h : CS w0 w b pb o l w1) (q : Obj) : CS w0 w b pb o l (w1.alloc q) := h.below (below_alloc (Below.refl _ _) q)
theorem CS.cell {w0 w : World} {b pb : Nat} {cs : Array Value} {t : TypeId} {fz : Nat × Nat} {l : List UInt8} {w1 : World} (h : CS w0 w b pb (.cells cs t fz) l w1) (j : Nat) (v : Value) (hj : cs[j]? = some v) : w1.cell? ⟨pb, j, none⟩ = some v := by
  rw [Lib.cell_of_heap h.2.2.1]; exact hj
/-- A box that was just laid. -/
theorem CS.lay {w0 w : World} {b : Nat} {l : List UInt8} (h : WS w0 b l w) (cs : Array Value) (t : TypeId) (ht : t ≠ 5) : CS w0 w b w.heap.size (.cells cs t (0, 0)) l (w.alloc (.cells cs t (0, 0))) :=
  ⟨h.below (below_alloc (Below.refl _ _) _), (KO.refl b w).below (below_alloc (Below.refl _ _) _), World.alloc_heap_new w _, fun e => absurd h.lt (by omega), _, _, _, rfl, ht⟩
/-- Two boxes that were just laid, the second one's texts. -/
theorem CS.texts {w0 w : World} {b pb : Nat} {o : Obj} {l : List UInt8} {w1 : World} (h : CS w0 w b pb o l w1) (xs : List ByteArray) (hx : xs.length ≤ 1000000) :
    ∀ w', Below w0.heap.size w0 w' → KO b (w1.alloc (.cells (xs.map Value.string).toArray 9 (0, 0))) w' → Kd.string.C w' (some ⟨w1.heap.size, 0, none⟩) xs.length xs := by
  intro w' _ hk
  exact strs_of (hk.keep (World.alloc_heap_new w1 _) (fun e => absurd h.1.lt (by omega)) (by decide)) hx
theorem CS.text2 {w0 w : World} {b pb : Nat} {o : Obj} {l : List UInt8} {w1 : World} (h : CS w0 w b pb o l w1) (x y : ByteArray) (hlen : l.length + 8196 ≤ 140737488355328) :
    Calls Tryz.prog 74 #[.pointer (some ⟨b, 0, none⟩), .slice (some ⟨w1.heap.size, 0, none⟩) 2 2] (w1.alloc (.cells #[.string x, .string y] 9)) fun e w' => e = .returned (.tuple #[]) ∧ Wrote w0 b l (textsB [x, y]) (w1.alloc (.cells #[.string x, .string y] 9)) w' :=
  writer_text.calls w0 b l _ 2 [x, y] _ (h.alloc _).1 (h.texts [x, y] (by simp)) (by simp) (by simp; omega)
theorem CS.text3 {w0 w : World} {b pb : Nat} {o : Obj} {l : List UInt8} {w1 : World} (h : CS w0 w b pb o l w1) (x y z : ByteArray) (hlen : l.length + 12294 ≤ 140737488355328) :
    Calls Tryz.prog 74 #[.pointer (some ⟨b, 0, none⟩), .slice (some ⟨w1.heap.size, 0, none⟩) 3 3] (w1.alloc (.cells #[.string x, .string y, .string z] 9)) fun e w' => e = .returned (.tuple #[]) ∧ Wrote w0 b l (textsB [x, y, z]) (w1.alloc (.cells #[.string x, .string y, .string z] 9)) w' :=
  writer_text.calls w0 b l _ 3 [x, y, z] _ (h.alloc _).1 (h.texts [x, y, z] (by simp)) (by simp) (by simp; omega)
theorem World_size_alloc (w : World) (o : Obj) : (w.alloc o).heap.size = w.heap.size + 1 := by simp
/-- A port's bytes; a variable's; a container's. -/
def portB (p : S160) : List UInt8 := numP 2 (uN p.f0) ++ numP 1 (uN p.f1)
def portsB (l : List S160) : List UInt8 := (l.map portB).flatten
def envB (p : S161) : List UInt8 := textsB [p.f0, p.f1]
def envsB (l : List S161) : List UInt8 := (l.map envB).flatten
def contB (x : S104) : List UInt8 :=
  textsB [x.f0, x.f1] ++ numP 1 x.f2.length ++ textsB x.f2 ++ numP 1 x.f3.length ++ portsB x.f3 ++ numP 4 (uN x.f4) ++ numP 4 (uN x.f5) ++ numP 1 x.f6.length ++ envsB x.f6
theorem flat_step {α : Type} (f : α → List UInt8) (xs : List α) (j : Nat) (h : j < xs.length) : ((xs.take (j + 1)).map f).flatten = ((xs.take j).map f).flatten ++ f xs[j] := by
  rw [List.take_succ_eq_append_getElem h]
  simp only [List.map_append, List.map_cons, List.map_nil, List.flatten_append, List.flatten_cons, List.flatten_nil, List.append_nil]
theorem portsB_step (xs : List S160) (j : Nat) (h : j < xs.length) : portsB (xs.take (j + 1)) = portsB (xs.take j) ++ portB (rd_T160 xs (j : Int)) := by
  rw [show rd_T160 xs (j : Int) = xs[j] from by simp [rd_T160, List.getD, List.getElem?_eq_getElem h]]
  exact flat_step portB xs j h
theorem envsB_step (xs : List S161) (j : Nat) (h : j < xs.length) : envsB (xs.take (j + 1)) = envsB (xs.take j) ++ envB (rd_T161 xs (j : Int)) := by
  rw [show rd_T161 xs (j : Int) = xs[j] from by simp [rd_T161, List.getD, List.getElem?_eq_getElem h]]
  exact flat_step envB xs j h
theorem flat_length {α : Type} (f : α → List UInt8) (n : Nat) (xs : List α) (h : ∀ x, (f x).length ≤ n) : (xs.map f).flatten.length ≤ n * xs.length := by
  induction xs with
  | nil => simp
  | cons x r ih =>
    have := h x
    simp only [List.map_cons, List.flatten_cons, List.length_append, List.length_cons]
    rw [Nat.mul_succ]
    omega
theorem portsB_length (xs : List S160) : (portsB xs).length ≤ 3 * xs.length := flat_length portB 3 xs (fun x => by simp [portB, numP_length])
theorem envsB_length (xs : List S161) : (envsB xs).length ≤ 8196 * xs.length := flat_length envB 8196 xs (fun x => by have := textsB_length [x.f0, x.f1]; simpa [envB] using this)
theorem contB_length (x : S104) : (contB x).length ≤ 4098 * (2 + x.f2.length + 2 * x.f6.length) + 3 * x.f3.length + 11 := by
  have h1 := textsB_length [x.f0, x.f1]
  have h2 := textsB_length x.f2
  have h3 := portsB_length x.f3
  have h4 := envsB_length x.f6
  simp only [contB, List.length_append, numP_length _ _ (Or.inl rfl), numP_length 4 _ (Or.inr (Or.inr (Or.inl rfl))), List.length_cons, List.length_nil] at *
  omega
theorem writer_container.calls (w0 : World) (b : Nat) (l : List UInt8) (x : S104) (A2 A3 A6 : Option Addr) (c2 c3 c6 : Nat) (w : World) (h : WS w0 b l w)
    (h2 : ∀ w', Below w0.heap.size w0 w' → Kd.string.C w' A2 x.f2.length x.f2) (h3 : ∀ w', Below w0.heap.size w0 w' → k160.C w' A3 x.f3.length x.f3) (h6 : ∀ w', Below w0.heap.size w0 w' → k161.C w' A6 x.f6.length x.f6)
    (n2 : x.f2.length ≤ 1000000) (n3 : x.f3.length ≤ 1000000) (n6 : x.f6.length ≤ 1000000) (hlen : l.length ≤ 100000000000000) :
    Calls Tryz.prog 77 #[.pointer (some ⟨b, 0, none⟩), .agg #[.string x.f0, .string x.f1, .slice A2 x.f2.length c2, .slice A3 x.f3.length c3, .int .i64 x.f4, .int .i64 x.f5, .slice A6 x.f6.length c6]] w fun e w' => e = .returned (.tuple #[]) ∧ Wrote w0 b l (contB x) w w' := by
  have H0 := Aside0.mk (CS.lay h #[.string x.f0, .string x.f1, .slice A2 x.f2.length c2, .slice A3 x.f3.length c3, .int .i64 x.f4, .int .i64 x.f5, .slice A6 x.f6.length c6] 104 (by decide))
  have G2 := Aside0.mk h2
  have G3 := Aside0.mk h3
  have G6 := Aside0.mk h6
  clear h h2 h3 h6
  have hT2 := textsB_length [x.f0, x.f1]
  have hT3 := textsB_length x.f2
  have hT4 := portsB_length x.f3
  have HT := Aside0.mk (And.intro hT2 (And.intro hT3 hT4))
  clear hT2 hT3 hT4
  have c1 := H0.out.text2 x.f0 x.f1 (by omega)
  rw [World_size_alloc] at c1
  go_enter Tryz.func77, Tryz.ntmps77
  go_wp2_with (go_at_call 74; (with_reducible refine c1.mono ?_); rintro e w1 ⟨rfl, l1, E1, m1, s1, k1⟩; have H1 := Aside0.mk ((H0.out.alloc _).step s1 k1); have L1 : l1.length ≤ l.length + 8196 := (by rw [m1]; have := HT.out.1; simp at this; omega); clear m1 s1 k1 H0 c1; generalize w.heap.size = pb at H1 ⊢; have e2 := H1.out.cell 2 (.slice A2 x.f2.length c2) rfl)
  go_wp2_with (go_at_call 73; (first | refine (writer_number.calls w0 b l1 1 x.f2.length _ H1.out.1 (by decide) (by omega)).mono ?_ | refine (writer_numberW.calls w0 b l1 1 x.f2.length _ H1.out.1 (by decide) (by omega)).mono ?_); rintro e w2 ⟨rfl, l2, E2, m2, s2, k2⟩; have H2 := Aside0.mk (H1.out.step s2 k2); have L2 : l2.length ≤ l.length + 8197 := (by rw [m2]; rw [numP1_length]; omega); clear m2 s2 k2 H1 L1 e2; have e3 := H2.out.cell 2 (.slice A2 x.f2.length c2) rfl)
  go_wp2_with (go_at_call 74; refine (writer_text.calls w0 b l2 _ _ x.f2 _ H2.out.1 (fun w' hb _ => G2.out w' hb) n2 (by omega)).mono ?_; rintro e w3 ⟨rfl, l3, E3, m3, s3, k3⟩; have H3 := Aside0.mk (H2.out.step s3 k3); have L3 : l3.length ≤ l.length + 8197 + 4098 * x.f2.length := (by rw [m3]; have := HT.out.2.1; omega); clear m3 s3 k3 H2 L2 e3; have e4 := H3.out.cell 3 (.slice A3 x.f3.length c3) rfl)
  go_wp2_with (go_at_call 73; (first | refine (writer_number.calls w0 b l3 1 x.f3.length _ H3.out.1 (by decide) (by omega)).mono ?_ | refine (writer_numberW.calls w0 b l3 1 x.f3.length _ H3.out.1 (by decide) (by omega)).mono ?_); rintro e w4 ⟨rfl, l4, E4, m4, s4, k4⟩; have H4 := Aside0.mk (H3.out.step s4 k4); have L4 : l4.length ≤ l.length + 8198 + 4098 * x.f2.length := (by rw [m4]; rw [numP1_length]; omega); clear m4 s4 k4 H3 L3 e4; have e5 := H4.out.cell 3 (.slice A3 x.f3.length c3) rfl)
  clear e5
  go_loopw [34] (fun v34 wr => ∃ j : Nat, v34 = .int .i64 (j : Int) ∧ j ≤ x.f3.length ∧ Aside0 (CS w0 w b pb (.cells #[.string x.f0, .string x.f1, .slice A2 x.f2.length c2, .slice A3 x.f3.length c3, .int .i64 x.f4, .int .i64 x.f5, .slice A6 x.f6.length c6] 104 (0, 0)) (l4 ++ portsB (x.f3.take j)) wr)) (fun v34 _ => x.f3.length - (intOf v34).toNat)
  case atStart => exact ⟨0, rfl, Nat.zero_le _, ⟨by simpa [portsB] using H4.out⟩⟩
  case round =>
    clear H4
    obtain ⟨j, rfl, hj, HX⟩ := hrel
    have hP := portsB_length (x.f3.take j)
    rw [List.length_take, Nat.min_eq_left hj] at hP
    by_cases hlt : j < x.f3.length
    · have hlt2 : (j : Int) < (x.f3.length : Int) := by omega
      have hj0 : (0 : Int) ≤ (j : Int) := by omega
      obtain ⟨ad, ea, q0, q1⟩ := at_T160 (G3.out wr HX.out.1.1) (j : Int) hj0 hlt2
      subst ea
      rw [Int.toNat_natCast] at q0 q1
      have HE := Aside0.mk (portsB_step x.f3 j hlt)
      generalize rd_T160 x.f3 (j : Int) = p at q0 q1 HE
      have HL := Aside0.mk (show (l4 ++ portsB (x.f3.take j)).length ≤ l.length + (8198 + 4098 * x.f2.length + 3 * x.f3.length) from by rw [List.length_append]; omega)
      clear hP
      obtain ⟨la, ha⟩ : ∃ la, la = l4 ++ portsB (x.f3.take j) := ⟨_, rfl⟩
      rw [← ha] at HX HL
      have HA := Aside0.mk ha
      clear ha
      have HQ := Aside0.mk (CS.lay HX.out.1 #[.int .i64 p.f0, .int .i64 p.f1] 160 (by decide))
      have HXa := Aside0.mk (HX.out.alloc (.cells #[.int .i64 p.f0, .int .i64 p.f1] 160))
      go_wp2_with (go_at_call 73; refine (writer_numberW.calls w0 b la 2 p.f0 _ HXa.out.1 (by decide) (by have := HL.out; omega)).mono ?_; rintro e w5 ⟨rfl, l5, E5, m5, s5, k5⟩; have H5 := Aside0.mk (HXa.out.step s5 k5); have Q5 := Aside0.mk (HQ.out.step s5 k5); have L5 : l5.length ≤ la.length + 2 := (by rw [m5, numP2_length]; omega); clear m5 s5 k5 HX HXa HQ q0 q1; generalize wr.heap.size = qb at Q5 ⊢; have e6 := Q5.out.cell 1 (.int .i64 p.f1) rfl)
      go_wp2_with (go_at_call 73; refine (writer_numberW.calls w0 b l5 1 p.f1 _ H5.out.1 (by decide) (by have := HL.out; omega)).mono ?_; rintro e w6 ⟨rfl, l6, E6, m6, s6, k6⟩)
      have H6 := Aside0.mk (H5.out.step s6 k6)
      clear m6 s6 k6 H5 Q5 e6
      have hw1 : wrap64 ((j : Int) + 1) = ((j + 1 : Nat) : Int) := by unfold wrap64; omega
      go_roundw
      case rel => exact ⟨j + 1, by simp [hw1], hlt, ⟨by rw [HE.out, ← List.append_assoc, ← HA.out]; unfold portB; rw [← List.append_assoc, ← E5.out, ← E6.out]; exact H6.out⟩⟩
      case measure => simp [intOf, hw1]; omega
    · have hlt7 : ¬ (j : Int) < (x.f3.length : Int) := by omega
      have HZ := Aside0.mk (show x.f3.take j = x.f3 from List.take_of_length_le (by omega))
      rw [HZ.out] at HX hP
      obtain ⟨l5, h5⟩ : ∃ l5, l5 = l4 ++ portsB x.f3 := ⟨_, rfl⟩
      rw [← h5] at HX
      have L5 : l5.length ≤ l.length + (8198 + 4098 * x.f2.length + 3 * x.f3.length) := by rw [h5, List.length_append]; omega
      have E5 := Aside0.mk h5
      have H5 := HX
      clear h5 HX hP HZ L4 hlt hj G3
      have e6 := H5.out.cell 4 (.int .i64 x.f4) rfl
      go_wp2_with (go_at_call 73; (first | refine (writer_number.calls w0 b l5 4 x.f4 _ H5.out.1 (by decide) (by omega)).mono ?_ | refine (writer_numberW.calls w0 b l5 4 x.f4 _ H5.out.1 (by decide) (by omega)).mono ?_); rintro e w6 ⟨rfl, l6, E6, m6, s6, k6⟩; have H6 := Aside0.mk (H5.out.step s6 k6); have L6 : l6.length ≤ l.length + (8202 + 4098 * x.f2.length + 3 * x.f3.length) := (by rw [m6]; rw [numP4_length]; omega); clear m6 s6 k6 H5 L5 e6; have e7 := H6.out.cell 5 (.int .i64 x.f5) rfl)
      go_wp2_with (go_at_call 73; (first | refine (writer_number.calls w0 b l6 4 x.f5 _ H6.out.1 (by decide) (by omega)).mono ?_ | refine (writer_numberW.calls w0 b l6 4 x.f5 _ H6.out.1 (by decide) (by omega)).mono ?_); rintro e w7 ⟨rfl, l7, E7, m7, s7, k7⟩; have H7 := Aside0.mk (H6.out.step s7 k7); have L7 : l7.length ≤ l.length + (8206 + 4098 * x.f2.length + 3 * x.f3.length) := (by rw [m7]; rw [numP4_length]; omega); clear m7 s7 k7 H6 L6 e7; have e8 := H7.out.cell 6 (.slice A6 x.f6.length c6) rfl)
      go_wp2_with (go_at_call 73; (first | refine (writer_number.calls w0 b l7 1 x.f6.length _ H7.out.1 (by decide) (by omega)).mono ?_ | refine (writer_numberW.calls w0 b l7 1 x.f6.length _ H7.out.1 (by decide) (by omega)).mono ?_); rintro e w8 ⟨rfl, l8, E8, m8, s8, k8⟩; have H8 := Aside0.mk (H7.out.step s8 k8); have L8 : l8.length ≤ l.length + (8207 + 4098 * x.f2.length + 3 * x.f3.length) := (by rw [m8]; rw [numP1_length]; omega); clear m8 s8 k8 H7 L7 e8; have e9 := H8.out.cell 6 (.slice A6 x.f6.length c6) rfl)
      clear e9
      go_loopw [68] (fun v68 wr => ∃ i : Nat, v68 = .int .i64 (i : Int) ∧ i ≤ x.f6.length ∧ Aside0 (CS w0 w b pb (.cells #[.string x.f0, .string x.f1, .slice A2 x.f2.length c2, .slice A3 x.f3.length c3, .int .i64 x.f4, .int .i64 x.f5, .slice A6 x.f6.length c6] 104 (0, 0)) (l8 ++ envsB (x.f6.take i)) wr)) (fun v68 _ => x.f6.length - (intOf v68).toNat)
      case atStart => exact ⟨0, rfl, Nat.zero_le _, ⟨by simpa [envsB] using H8.out⟩⟩
      case round =>
        clear H8
        obtain ⟨i, rfl, hi, HX⟩ := hrel
        have hP := envsB_length (x.f6.take i)
        rw [List.length_take, Nat.min_eq_left hi] at hP
        by_cases hlt : i < x.f6.length
        · have hlt2 : (i : Int) < (x.f6.length : Int) := by omega
          have hi0 : (0 : Int) ≤ (i : Int) := by omega
          obtain ⟨ad, ea, q0, q1⟩ := at_T161 (G6.out wr HX.out.1.1) (i : Int) hi0 hlt2
          subst ea
          rw [Int.toNat_natCast] at q0 q1
          have HE := Aside0.mk (envsB_step x.f6 i hlt)
          generalize rd_T161 x.f6 (i : Int) = p at q0 q1 HE
          have HL := Aside0.mk (show (l8 ++ envsB (x.f6.take i)).length + 8196 ≤ 140737488355328 from by rw [List.length_append]; omega)
          clear hP
          obtain ⟨la, ha⟩ : ∃ la, la = l8 ++ envsB (x.f6.take i) := ⟨_, rfl⟩
          rw [← ha] at HX HL
          have HA := Aside0.mk ha
          clear ha
          have HXa := Aside0.mk (HX.out.alloc (.cells #[.string p.f0, .string p.f1] 161))
          have c9 := HXa.out.text2 p.f0 p.f1 (by have := HL.out; omega)
          rw [World_size_alloc] at c9
          go_wp2_with (go_at_call 74; (with_reducible refine c9.mono ?_); rintro e w9 ⟨rfl, l9, E9, m9, s9, k9⟩)
          have H9 := Aside0.mk ((HXa.out.alloc _).step s9 k9)
          clear m9 s9 k9 HX HXa q0 q1 c9
          have hw1 : wrap64 ((i : Int) + 1) = ((i + 1 : Nat) : Int) := by unfold wrap64; omega
          go_roundw
          case rel => exact ⟨i + 1, by simp [hw1], hlt, ⟨by rw [HE.out, ← List.append_assoc, ← HA.out]; unfold envB; rw [← E9.out]; exact H9.out⟩⟩
          case measure => simp [intOf, hw1]; omega
        · have hlt7 : ¬ (i : Int) < (x.f6.length : Int) := by omega
          have HZ := Aside0.mk (show x.f6.take i = x.f6 from List.take_of_length_le (by omega))
          rw [HZ.out] at HX
          go_wp2_with fail
          go_end0
          refine ⟨rfl, wrote_mk (m := contB x) ?_ HX.out.2.1⟩
          have hq := HX.out.1
          rw [E8.out, E7.out, E6.out, E5.out, E4.out, E3.out, E2.out, E1.out] at hq
          unfold contB
          simpa only [List.append_assoc] using hq
end Go.Proofs.YtlmeelmjodjfpaaGreatDoor.PB
