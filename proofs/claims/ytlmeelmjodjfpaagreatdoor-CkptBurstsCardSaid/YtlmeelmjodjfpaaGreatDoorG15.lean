/- CkptBursts, part 16 of 24 of its proof: for every input that meets the row's condition (laid, tied) the call returns true and each argument reads behind it as before. -/
import Derived.Test.YtlmeelmjodjfpaaGreatDoorG14
import Derived.Test.YtlmeelmjodjfpaaGreatDoorG12
section
namespace Go.Proofs.YtlmeelmjodjfpaaGreatDoor.PB
open Go.RowKit Go.Proofs.YtlmeelmjodjfpaaGreatDoorW.PrintWords Go.Proofs.YtlmeelmjodjfpaaGreatDoorW.PrintLast Go.Proofs.YtlmeelmjodjfpaaGreatDoorW.PrintMore
open Fr (tx tx_list tx_size tx_app)
open Go.Proofs.YtlmeelmjodjfpaaGreatDoor.Op (num numF)
set_option linter.unusedVariables false
set_option linter.unusedSimpArgs false
theorem info94 : (Tryz.prog.info? 94).map (fun i => (i.zero, i.size, i.bytes)) = some (some (.agg #[.string ⟨#[]⟩, .string ⟨#[]⟩, .string ⟨#[]⟩, .int .i64 0, .int .i64 0, .bool false, .slice none 0 0]), 7, 96) := by kernel_rfl
/-- What the closure takes. -/
def one5 (t : St) (l : List S94) : St × List S94 :=
  let a := textT t.r t.e
  let b := textT a.2.1 a.2.2
  let c := textT b.2.1 b.2.2
  let d := takeT 1 c.2.1 c.2.2
  let e := takeT 2 d.2.1 d.2.2
  let f := flagT e.2.1 e.2.2
  let m := manyT 1 16 one4 ⟨f.2.1, f.2.2, t.f⟩ ([] : List S104)
  (m.1, l ++ [⟨tx a.1, ⟨tx b.1, tx c.1, (d.1 : Int), (e.1 : Int), f.1, m.2⟩⟩])
theorem keep_mod {g c : Nat} {w w1 w2 : World} (h : KeepBut w w1 g none) (m : Mod2 g c w1 w2) (hc : w.heap.size ≤ c) : KeepBut w w2 g none :=
  ⟨Nat.le_trans h.1 m.1, fun k h1 h2 h3 => (m.2 k (Nat.lt_of_lt_of_le h1 h.1) h2 (by omega)).trans (h.2 k h1 h2 h3)⟩
theorem keep_put {g b : Nat} {w w1 w2 : World} (h : KeepBut w w1 g none) (m : KeepBut w1 w2 b none) (hb : w.heap.size ≤ b) : KeepBut w w2 g none :=
  ⟨Nat.le_trans h.1 m.1, fun k h1 h2 h3 => (m.2 k (Nat.lt_of_lt_of_le h1 h.1) (by omega) (by simp)).trans (h.2 k h1 h2 h3)⟩
def put6 (w : World) (b o : Nat) (v0 v1 v2 v3 v4 v5 : Value) : World := (((((w.setCell ⟨b, o, none⟩ v0).setCell ⟨b, o + 1, none⟩ v1).setCell ⟨b, o + 2, none⟩ v2).setCell ⟨b, o + 3, none⟩ v3).setCell ⟨b, o + 4, none⟩ v4).setCell ⟨b, o + 5, none⟩ v5
theorem put6_keep (w : World) (b o : Nat) (v0 v1 v2 v3 v4 v5 : Value) : KeepBut w (put6 w b o v0 v1 v2 v3 v4 v5) b none :=
  (((((((KeepBut.refl w b none).set_ _ v0).set_ _ v1).set_ _ v2).set_ _ v3).set_ _ v4).set_ _ v5)
theorem put6_below {w0 w : World} {b : Nat} (h : Below w0.heap.size w0 w) (hb : w0.heap.size ≤ b) (o : Nat) (v0 v1 v2 v3 v4 v5 : Value) : Below w0.heap.size w0 (put6 w b o v0 v1 v2 v3 v4 v5) :=
  (((((h.setCell hb v0).setCell hb v1).setCell hb v2).setCell hb v3).setCell hb v4).setCell hb v5
theorem put6_blk0 {w : World} {b ty : Nat} {u0 u1 u2 u3 u4 u5 : Value} (h : w.heap[b]? = some (.cells #[u0, u1, u2, u3, u4, u5] ty (0, 0))) (v0 v1 v2 v3 v4 v5 : Value) : (put6 w b 0 v0 v1 v2 v3 v4 v5).heap[b]? = some (.cells #[v0, v1, v2, v3, v4, v5] ty (0, 0)) :=
  blk_put (blk_put (blk_put (blk_put (blk_put (blk_put h 0 v0 rfl) 1 v1 rfl) 2 v2 rfl) 3 v3 rfl) 4 v4 rfl) 5 v5 rfl
theorem put6_blk1 {w : World} {b ty : Nat} {x u0 u1 u2 u3 u4 u5 : Value} (h : w.heap[b]? = some (.cells #[x, u0, u1, u2, u3, u4, u5] ty (0, 0))) (v0 v1 v2 v3 v4 v5 : Value) : (put6 w b 1 v0 v1 v2 v3 v4 v5).heap[b]? = some (.cells #[x, v0, v1, v2, v3, v4, v5] ty (0, 0)) :=
  blk_put (blk_put (blk_put (blk_put (blk_put (blk_put h 1 v0 rfl) 2 v1 rfl) 3 v2 rfl) 4 v3 rfl) 5 v4 rfl) 6 v5 rfl
theorem enters61 : ∀ (a : Array Value) (W : World), (callFunc 61 a).run Tryz.prog W = .ok (.enter 61 a) W := enters_of Tryz.func61 (by kernel_rfl) rfl
set_option maxHeartbeats 1000000
set_option maxRecDepth 100000
theorem many4 {g pb tb : Nat} {w0 w : World} {cs : Array Value} {t : St} (E : CE g pb tb w0 w) (hc : 5 < cs.size) (hz : cs.setIfInBounds 5 (.slice none 0 0) = cs) (ht : TK3 g t w) (hb : w.heap[pb]? = some (.cells cs 92 (0, 0))) (hB : Below w0.heap.size w0 w) :
    Calls Tryz.prog 58 #[.pointer (some ⟨g, 0, none⟩), .int .i64 1, .int .i64 16, .func (.func 61) #[] #[.pointer (some ⟨pb, 0, none⟩), .pointer (some ⟨tb, 0, none⟩)]] w fun x w2 => x = .returned (.tuple #[]) ∧
      ∃ v, TK3 g (manyT 1 16 one4 t []).1 w2 ∧ Below w0.heap.size w0 w2 ∧ w2.heap[pb]? = some (.cells (cs.setIfInBounds 5 v) 92 (0, 0)) ∧ k104.R 104 w2 w0.heap.size (fun k => w.heap.size ≤ k) v (manyT 1 16 one4 t []).2 ∧ Mod2 g pb w w2 := by
  refine (many.calls 1 16 (by decide) (by decide) 61 enters61 _ (C1I k104 104 5 92 g pb w0 w cs) one4 (C1I.keep E) E.hg (fun j r l w1 hj hI => clos4.calls E hc j r l w1 hj hI) t [] ⟨ht, ⟨rfl, .slice none 0 0, by rw [hz]; exact hb, Kd.R_nil _ _ _ _ _, Mod2.refl _ _ _⟩, hB⟩).mono ?_
  rintro x w2 ⟨rfl, j, _, ⟨h1, ⟨_, v, h2, h3, h4⟩, h5⟩⟩
  exact ⟨rfl, v, h1, h5, h2, h3, h4⟩
theorem clos5.calls {g cb tb : Nat} {w0 wE : World} {cs : Array Value} (E : CE g cb tb w0 wE) (hcs : 1 < cs.size) (j : Nat) (r : List UInt8) (l : List S94) (w1 : World) (hj : j < 1024) (h : ManyI (C1I k94 94 1 28 g cb w0 wE cs) g w0 j ⟨r, 0, false⟩ l w1) :
    Calls Tryz.prog 59 #[.pointer (some ⟨tb, 0, none⟩), .pointer (some ⟨cb, 0, none⟩)] w1 fun x w2 => x = .returned (.tuple #[]) ∧ ManyI (C1I k94 94 1 28 g cb w0 wE cs) g w0 (j + 1) (one5 ⟨r, 0, false⟩ l).1 (one5 ⟨r, 0, false⟩ l).2 w2 := by
  obtain ⟨htk, ⟨hl, v, hC⟩, hbel⟩ := h
  have hT : w1.cell? ⟨tb, 0, none⟩ = some (.pointer (some ⟨g, 0, none⟩)) := E.at hC.mod
  have hgl : g < w1.heap.size := blk_lt htk
  have htl : tb < w1.heap.size := Nat.lt_of_lt_of_le (blk_lt E.tp) hC.mod.1
  have H := Aside0.mk (And.intro htk (And.intro hC (And.intro hbel hl)))
  have HT := Aside0.mk hT
  have hE := Aside0.mk E
  have HN := Aside0.mk (And.intro hgl htl)
  obtain ⟨⟨x1, r1, e1⟩, hk1⟩ : ∃ p, p = textT r 0 := ⟨_, rfl⟩
  obtain ⟨⟨x2, r2, e2⟩, hk2⟩ : ∃ p, p = textT r1 e1 := ⟨_, rfl⟩
  obtain ⟨⟨x3, r3, e3⟩, hk3⟩ : ∃ p, p = textT r2 e2 := ⟨_, rfl⟩
  obtain ⟨⟨n4, r4, e4⟩, hk4⟩ : ∃ p, p = takeT 1 r3 e3 := ⟨_, rfl⟩
  obtain ⟨⟨n5, r5, e5⟩, hk5⟩ : ∃ p, p = takeT 2 r4 e4 := ⟨_, rfl⟩
  obtain ⟨⟨b6, r6, e6⟩, hk6⟩ : ∃ p, p = flagT r5 e5 := ⟨_, rfl⟩
  obtain ⟨⟨t7, l6⟩, hk7⟩ : ∃ p, p = manyT 1 16 one4 ⟨r6, e6, false⟩ ([] : List S104) := ⟨_, rfl⟩
  have HF := Aside0.mk (show one5 ⟨r, 0, false⟩ l = (t7, l ++ [⟨tx x1, ⟨tx x2, tx x3, (n4 : Int), (n5 : Int), b6, l6⟩⟩]) from by
    unfold one5
    simp only [← hk1, ← hk2, ← hk3, ← hk4, ← hk5, ← hk6, ← hk7])
  rw [HF.out]
  have hn4 := takeT_lt 1 r3 e3 (by decide)
  rw [← hk4] at hn4
  have hn5 := takeT_lt 2 r4 e4 (by decide)
  rw [← hk5] at hn5
  have cT1 := Text.calls htk hbel E.hg
  rw [← hk1] at cT1
  have cT2 := fun (W W2 : World) (k : TKs 127 [.bool false] g r1 e1 w0 W W2) => Text.calls k.tk k.below hE.out.hg
  rw [← hk2] at cT2
  have cT3 := fun (W W2 : World) (k : TKs 127 [.bool false] g r2 e2 w0 W W2) => Text.calls k.tk k.below hE.out.hg
  rw [← hk3] at cT3
  have cT4 : ∀ (W W2 : World) (k : TKs 127 [.bool false] g r3 e3 w0 W W2), Calls Tryz.prog 44 #[.pointer (some ⟨g, 0, none⟩), .int .i64 1] W2 _ := fun (W W2 : World) (k : TKs 127 [.bool false] g r3 e3 w0 W W2) => Take.calls 1 k.tk k.below hE.out.hg (by decide)
  rw [← hk4] at cT4
  have cT5 : ∀ (W W2 : World) (k : TKs 127 [.bool false] g r4 e4 w0 W W2), Calls Tryz.prog 44 #[.pointer (some ⟨g, 0, none⟩), .int .i64 2] W2 _ := fun (W W2 : World) (k : TKs 127 [.bool false] g r4 e4 w0 W W2) => Take.calls 2 k.tk k.below hE.out.hg (by decide)
  rw [← hk5] at cT5
  have cT6 := fun (W W2 : World) (k : TKs 127 [.bool false] g r5 e5 w0 W W2) => Flag.calls k.tk k.below hE.out.hg
  rw [← hk6] at cT6
  dsimp only at hn4 hn5 cT1 cT2 cT3 cT4 cT5 cT6
  have HK7 := Aside0.mk hk7
  clear hk1 hk2 hk3 hk4 hk5 hk6 hk7 htk hC hbel hl E HF hgl htl
  go_enter Tryz.func59, Tryz.ntmps59
  go_wp2_with (go_at_call 46; refine cT1.mono ?_; rintro x w3 ⟨rfl, hk⟩; have K3 := Aside0.mk hk; clear hk cT1 hT)
  have HX := Aside0.mk (blk_new w3 (.cells #[.string (tx x1), .string ⟨#[]⟩, .string ⟨#[]⟩, .int .i64 0, .int .i64 0, .bool false, .slice none 0 0] 94))
  have K4 := Aside0.mk (K3.out.quiet (below_alloc (Below.refl _ _) (.cells #[.string (tx x1), .string ⟨#[]⟩, .string ⟨#[]⟩, .int .i64 0, .int .i64 0, .bool false, .slice none 0 0] 94)))
  have HXN := Aside0.mk (Nat.le_trans K3.out.keep.1 (Nat.le_refl w3.heap.size))
  generalize w3.alloc (.cells #[.string (tx x1), .string ⟨#[]⟩, .string ⟨#[]⟩, .int .i64 0, .int .i64 0, .bool false, .slice none 0 0] 94) = W4 at HX K4 ⊢
  generalize w3.heap.size = xb at HX HXN ⊢
  clear K3
  have q1 : IntKind.i64.wrap (n4 : Int) = n4 := IntWalk.i64_in _ (by omega)
  have q2 : IntKind.i64.wrap (n5 : Int) = n5 := IntWalk.i64_in _ (by omega)
  have q3 : wrap64 (n4 : Int) = n4 := IntWalk.wrap64_in _ (by omega)
  have q4 : wrap64 (n5 : Int) = n5 := IntWalk.wrap64_in _ (by omega)
  have HTW := Aside0.mk (keep_cell K4.out.keep HT.out hE.out.tg)
  have KC := Aside0.mk (show TKs 127 [.bool false] g r1 e1 w0 w1 W4.drew from K4.out.quiet (below_drew1 (Below.refl _ _)))
  clear K4
  refine start_ (n := 25) (S := fun w' => w'.cell? ⟨tb, 0, none⟩ = some (.pointer (some ⟨g, 0, none⟩)) ∧ w'.heap[xb]? = some (.cells #[.string (tx x1), .string ⟨#[]⟩, .string ⟨#[]⟩, .int .i64 0, .int .i64 0, .bool false, .slice none 0 0] 94 (0, 0)) ∧ Below w0.heap.size w0 w' ∧ KeepBut w1 w' g none) (ds := [24]) #[false, false, false, false, false, false, false, false, false, false, false, false, false, false, false, false, false, false, false, false, false, false, false, false, false] (by kernel_rfl) rfl rfl ⟨(cell_below_ (below_drew1 (Below.refl _ _)) HTW.out), (show W4.drew.heap[xb]? = _ from HX.out), KC.out.below, KC.out.keep⟩ (fun hHeld => ?_)
  refine take_ (i := 0) (N := some 9) (v := ?_) (a' := ?_) #[true, false, false, false, false, false, false, false, false, false, false, false, false, false, false, false, false, false, false, false, false, false, false, false, false] rfl rfl (by kernel_rfl) (fun _ _ _ h => h) (Or.inl ⟨by rfl, ?_⟩) hHeld ?_ ?_
  rotate_left
  · rintro w' ⟨s0, s1, s2, s3⟩
    go_simp
    with_reducible rfl
  rotate_left
  · simp only [Act.put, List.setIfInBounds_toArray, List.set_cons_zero, List.set_cons_succ, i64_w, i32_w]
    rfl
  refine pure_ (i := 1) (N := some 10) (v := ?_) (a' := ?_) #[true, true, false, false, false, false, false, false, false, false, false, false, false, false, false, false, false, false, false, false, false, false, false, false, false] rfl rfl (by kernel_rfl) (fun _ _ _ h => h) (Or.inl ⟨by rfl, ?_⟩) ?_ ?_
  rotate_left
  · intro w'
    go_simp
    with_reducible rfl
  rotate_left
  · simp only [Act.put, List.setIfInBounds_toArray, List.set_cons_zero, List.set_cons_succ, i64_w, i32_w]
    rfl
  refine pure_ (i := 2) (N := some 11) (v := ?_) (a' := ?_) #[true, true, true, false, false, false, false, false, false, false, false, false, false, false, false, false, false, false, false, false, false, false, false, false, false] rfl rfl (by kernel_rfl) (fun _ _ _ h => h) (Or.inl ⟨by rfl, ?_⟩) ?_ ?_
  rotate_left
  · intro w'
    go_simp
    with_reducible rfl
  rotate_left
  · simp only [Act.put, List.setIfInBounds_toArray, List.set_cons_zero, List.set_cons_succ, i64_w, i32_w]
    rfl
  refine take_ (i := 4) (N := some 13) (v := ?_) (a' := ?_) #[true, true, true, false, true, false, false, false, false, false, false, false, false, false, false, false, false, false, false, false, false, false, false, false, false] rfl rfl (by kernel_rfl) (fun _ _ _ h => h) (Or.inl ⟨by rfl, ?_⟩) hHeld ?_ ?_
  rotate_left
  · rintro w' ⟨s0, s1, s2, s3⟩
    go_simp
    with_reducible rfl
  rotate_left
  · simp only [Act.put, List.setIfInBounds_toArray, List.set_cons_zero, List.set_cons_succ, i64_w, i32_w]
    rfl
  refine pure_ (i := 5) (N := some 14) (v := ?_) (a' := ?_) #[true, true, true, false, true, true, false, false, false, false, false, false, false, false, false, false, false, false, false, false, false, false, false, false, false] rfl rfl (by kernel_rfl) (fun _ _ _ h => h) (Or.inl ⟨by rfl, ?_⟩) ?_ ?_
  rotate_left
  · intro w'
    go_simp
    with_reducible rfl
  rotate_left
  · simp only [Act.put, List.setIfInBounds_toArray, List.set_cons_zero, List.set_cons_succ, i64_w, i32_w]
    rfl
  refine pure_ (i := 6) (N := some 15) (v := ?_) (a' := ?_) #[true, true, true, false, true, true, true, false, false, false, false, false, false, false, false, false, false, false, false, false, false, false, false, false, false] rfl rfl (by kernel_rfl) (fun _ _ _ h => h) (Or.inl ⟨by rfl, ?_⟩) ?_ ?_
  rotate_left
  · intro w'
    go_simp
    with_reducible rfl
  rotate_left
  · simp only [Act.put, List.setIfInBounds_toArray, List.set_cons_zero, List.set_cons_succ, i64_w, i32_w]
    rfl
  refine take_ (i := 8) (N := some 17) (v := ?_) (a' := ?_) #[true, true, true, false, true, true, true, false, true, false, false, false, false, false, false, false, false, false, false, false, false, false, false, false, false] rfl rfl (by kernel_rfl) (fun _ _ _ h => h) (Or.inl ⟨by rfl, ?_⟩) hHeld ?_ ?_
  rotate_left
  · rintro w' ⟨s0, s1, s2, s3⟩
    go_simp
    with_reducible rfl
  rotate_left
  · simp only [Act.put, List.setIfInBounds_toArray, List.set_cons_zero, List.set_cons_succ, i64_w, i32_w]
    rfl
  refine pure_ (i := 9) (N := some 18) (v := ?_) (a' := ?_) #[true, true, true, false, true, true, true, false, true, true, false, false, false, false, false, false, false, false, false, false, false, false, false, false, false] rfl rfl (by kernel_rfl) (fun _ _ _ h => h) (Or.inl ⟨by rfl, ?_⟩) ?_ ?_
  rotate_left
  · intro w'
    go_simp
    with_reducible rfl
  rotate_left
  · simp only [Act.put, List.setIfInBounds_toArray, List.set_cons_zero, List.set_cons_succ, i64_w, i32_w]
    rfl
  refine pure_ (i := 10) (N := some 19) (v := ?_) (a' := ?_) #[true, true, true, false, true, true, true, false, true, true, true, false, false, false, false, false, false, false, false, false, false, false, false, false, false] rfl rfl (by kernel_rfl) (fun _ _ _ h => h) (Or.inl ⟨by rfl, ?_⟩) ?_ ?_
  rotate_left
  · intro w'
    go_simp
    with_reducible rfl
  rotate_left
  · simp only [Act.put, List.setIfInBounds_toArray, List.set_cons_zero, List.set_cons_succ, i64_w, i32_w]
    rfl
  refine take_ (i := 13) (N := some 22) (v := ?_) (a' := ?_) #[true, true, true, false, true, true, true, false, true, true, true, false, false, true, false, false, false, false, false, false, false, false, false, false, false] rfl rfl (by kernel_rfl) (fun _ _ _ h => h) (Or.inl ⟨by rfl, ?_⟩) hHeld ?_ ?_
  rotate_left
  · rintro w' ⟨s0, s1, s2, s3⟩
    go_simp
    with_reducible rfl
  rotate_left
  · simp only [Act.put, List.setIfInBounds_toArray, List.set_cons_zero, List.set_cons_succ, i64_w, i32_w]
    rfl
  refine pure_ (i := 14) (N := some 23) (v := ?_) (a' := ?_) #[true, true, true, false, true, true, true, false, true, true, true, false, false, true, true, false, false, false, false, false, false, false, false, false, false] rfl rfl (by kernel_rfl) (fun _ _ _ h => h) (Or.inl ⟨by rfl, ?_⟩) ?_ ?_
  rotate_left
  · intro w'
    go_simp
    with_reducible rfl
  rotate_left
  · simp only [Act.put, List.setIfInBounds_toArray, List.set_cons_zero, List.set_cons_succ, i64_w, i32_w]
    rfl
  refine pure_ (i := 15) (N := some 24) (v := ?_) (a' := ?_) #[true, true, true, false, true, true, true, false, true, true, true, false, false, true, true, true, false, false, false, false, false, false, false, false, false] rfl rfl (by kernel_rfl) (fun _ _ _ h => h) (Or.inl ⟨by rfl, ?_⟩) ?_ ?_
  rotate_left
  · intro w'
    go_simp
    with_reducible rfl
  rotate_left
  · simp only [Act.put, List.setIfInBounds_toArray, List.set_cons_zero, List.set_cons_succ, i64_w, i32_w]
    rfl
  refine take_ (i := 18) (N := some 27) (v := ?_) (a' := ?_) #[true, true, true, false, true, true, true, false, true, true, true, false, false, true, true, true, false, false, true, false, false, false, false, false, false] rfl rfl (by kernel_rfl) (fun _ _ _ h => h) (Or.inl ⟨by rfl, ?_⟩) hHeld ?_ ?_
  rotate_left
  · rintro w' ⟨s0, s1, s2, s3⟩
    go_simp
    with_reducible rfl
  rotate_left
  · simp only [Act.put, List.setIfInBounds_toArray, List.set_cons_zero, List.set_cons_succ, i64_w, i32_w]
    rfl
  refine pure_ (i := 19) (N := some 28) (v := ?_) (a' := ?_) #[true, true, true, false, true, true, true, false, true, true, true, false, false, true, true, true, false, false, true, true, false, false, false, false, false] rfl rfl (by kernel_rfl) (fun _ _ _ h => h) (Or.inl ⟨by rfl, ?_⟩) ?_ ?_
  rotate_left
  · intro w'
    go_simp
    with_reducible rfl
  rotate_left
  · simp only [Act.put, List.setIfInBounds_toArray, List.set_cons_zero, List.set_cons_succ, i64_w, i32_w]
    rfl
  refine pure_ (i := 20) (N := some 29) (v := ?_) (a' := ?_) #[true, true, true, false, true, true, true, false, true, true, true, false, false, true, true, true, false, false, true, true, true, false, false, false, false] rfl rfl (by kernel_rfl) (fun _ _ _ h => h) (Or.inl ⟨by rfl, ?_⟩) ?_ ?_
  rotate_left
  · intro w'
    go_simp
    with_reducible rfl
  rotate_left
  · simp only [Act.put, List.setIfInBounds_toArray, List.set_cons_zero, List.set_cons_succ, i64_w, i32_w]
    rfl
  refine join_ (σ := Nat) 1 #[true, true, true, true, true, true, true, true, true, true, true, true, true, true, true, true, true, true, true, true, true, true, true, true, false] (fun x => [(3, .pointer (some ⟨x, 0, none⟩)), (9, .pointer (some ⟨g, 0, none⟩)), (10, .pointer (some ⟨g, 0, none⟩)), (11, .pointer (some ⟨g, 0, none⟩)), (12, .string (tx x2)), (13, .pointer (some ⟨g, 0, none⟩)), (14, .pointer (some ⟨g, 0, none⟩)), (15, .pointer (some ⟨g, 0, none⟩)), (16, .string (tx x3)), (17, .pointer (some ⟨g, 0, none⟩)), (18, .pointer (some ⟨g, 0, none⟩)), (19, .pointer (some ⟨g, 0, none⟩)), (20, .int .u64 (n4 : Int)), (21, .int .i64 (n4 : Int)), (22, .pointer (some ⟨g, 0, none⟩)), (23, .pointer (some ⟨g, 0, none⟩)), (24, .pointer (some ⟨g, 0, none⟩)), (25, .int .u64 (n5 : Int)), (26, .int .i64 (n5 : Int)), (27, .pointer (some ⟨g, 0, none⟩)), (28, .pointer (some ⟨g, 0, none⟩)), (29, .pointer (some ⟨g, 0, none⟩)), (30, .bool b6), (31, .agg #[.string (tx x2), .string (tx x3), .int .i64 (n4 : Int), .int .i64 (n5 : Int), .bool b6, .slice none 0 0])]) (fun x w' => (w'.cell? ⟨tb, 0, none⟩ = some (.pointer (some ⟨g, 0, none⟩)) ∧ w'.heap[xb]? = some (.cells #[.string (tx x1), .string ⟨#[]⟩, .string ⟨#[]⟩, .int .i64 0, .int .i64 0, .bool false, .slice none 0 0] 94 (0, 0)) ∧ Below w0.heap.size w0 w' ∧ KeepBut w1 w' g none) ∧ TKs 127 [.bool false] g r6 e6 w0 w1 w' ∧ w'.heap[x]? = some (.cells #[.string ⟨#[]⟩, .string ⟨#[]⟩, .int .i64 0, .int .i64 0, .bool false, .slice none 0 0] 92 (0, 0)) ∧ xb < x) ?_ ?_
  rotate_left
  · intro hCont
    refine two_ (i := 3) (j := 23) (Ni := some 12) (Nj := some 3) #[true, true, true, true, true, true, true, false, true, true, true, false, false, true, true, true, false, false, true, true, true, false, false, false, false] #[true, true, true, false, true, true, true, false, true, true, true, false, false, true, true, true, false, false, true, true, true, false, false, true, false] rfl rfl rfl rfl (by kernel_rfl) (by decide) (by decide) (fun K hK => ?_) (fun K hK => ?_)
    · skip
      refine goes_ Tryz.func46 (by kernel_rfl) rfl #[.pointer (some ⟨g, 0, none⟩)] (by rfl) rfl rfl (by simp only [List.map_toArray, List.map_cons, List.map_nil]; rfl) ?_
      with_reducible refine (cT2 _ _ KC.out).mono ?_
      rintro x w5 ⟨rfl, hk⟩
      refine ⟨_, rfl, ?_⟩
      have KC := Aside0.mk (KC.out.then hk)
      refine hK.out _ _ ⟨keep_cell hk.keep hHeld.1 hE.out.tg, hk.keep.blk hHeld.2.1 (by have := HN.out.1; have := HXN.out; omega) (by simp), hk.below, KeepBut.then hHeld.2.2.2 hk.keep⟩ (fun hNow => ?_)
      clear hK K hHeld
      have hHeld := hNow
      clear hNow
      refine norm_ (a' := ?_) ?_ ?_
      rotate_left
      · show Act.put _ (some 12) _ = _
        simp only [Act.put, List.setIfInBounds_toArray, List.set_cons_zero, List.set_cons_succ, i64_w, i32_w]
        rfl
      refine two_ (i := 7) (j := 23) (Ni := some 16) (Nj := some 3) #[true, true, true, true, true, true, true, true, true, true, true, false, false, true, true, true, false, false, true, true, true, false, false, false, false] #[true, true, true, true, true, true, true, false, true, true, true, false, false, true, true, true, false, false, true, true, true, false, false, true, false] rfl rfl rfl rfl (by kernel_rfl) (by decide) (by decide) (fun K hK => ?_) (fun K hK => ?_)
      · skip
        refine goes_ Tryz.func46 (by kernel_rfl) rfl #[.pointer (some ⟨g, 0, none⟩)] (by rfl) rfl rfl (by simp only [List.map_toArray, List.map_cons, List.map_nil]; rfl) ?_
        with_reducible refine (cT3 _ _ KC.out).mono ?_
        rintro x w5 ⟨rfl, hk⟩
        refine ⟨_, rfl, ?_⟩
        have KC := Aside0.mk (KC.out.then hk)
        refine hK.out _ _ ⟨keep_cell hk.keep hHeld.1 hE.out.tg, hk.keep.blk hHeld.2.1 (by have := HN.out.1; have := HXN.out; omega) (by simp), hk.below, KeepBut.then hHeld.2.2.2 hk.keep⟩ (fun hNow => ?_)
        clear hK K hHeld
        have hHeld := hNow
        clear hNow
        refine norm_ (a' := ?_) ?_ ?_
        rotate_left
        · show Act.put _ (some 16) _ = _
          simp only [Act.put, List.setIfInBounds_toArray, List.set_cons_zero, List.set_cons_succ, i64_w, i32_w]
          rfl
        refine two_ (i := 11) (j := 23) (Ni := some 20) (Nj := some 3) #[true, true, true, true, true, true, true, true, true, true, true, true, false, true, true, true, false, false, true, true, true, false, false, false, false] #[true, true, true, true, true, true, true, true, true, true, true, false, false, true, true, true, false, false, true, true, true, false, false, true, false] rfl rfl rfl rfl (by kernel_rfl) (by decide) (by decide) (fun K hK => ?_) (fun K hK => ?_)
        · skip
          refine goes_ Tryz.func44 (by kernel_rfl) rfl #[.pointer (some ⟨g, 0, none⟩), .int .i64 1] (by rfl) rfl rfl (by simp only [List.map_toArray, List.map_cons, List.map_nil]; rfl) ?_
          with_reducible refine (cT4 _ _ KC.out).mono ?_
          rintro x w5 ⟨rfl, hk⟩
          refine ⟨_, rfl, ?_⟩
          have KC := Aside0.mk (KC.out.then hk)
          refine hK.out _ _ ⟨keep_cell hk.keep hHeld.1 hE.out.tg, hk.keep.blk hHeld.2.1 (by have := HN.out.1; have := HXN.out; omega) (by simp), hk.below, KeepBut.then hHeld.2.2.2 hk.keep⟩ (fun hNow => ?_)
          clear hK K hHeld
          have hHeld := hNow
          clear hNow
          refine norm_ (a' := ?_) ?_ ?_
          rotate_left
          · show Act.put _ (some 20) _ = _
            simp only [Act.put, List.setIfInBounds_toArray, List.set_cons_zero, List.set_cons_succ, i64_w, i32_w]
            rfl
          refine pure_ (i := 12) (N := some 21) (v := ?_) (a' := ?_) #[true, true, true, true, true, true, true, true, true, true, true, true, true, true, true, true, false, false, true, true, true, false, false, false, false] rfl rfl (by kernel_rfl) (fun _ _ _ h => h) (Or.inl ⟨by rfl, ?_⟩) ?_ ?_
          rotate_left
          · intro w'
            go_simp
            with_reducible rfl
          rotate_left
          · simp only [Act.put, List.setIfInBounds_toArray, List.set_cons_zero, List.set_cons_succ, i64_w, i32_w]
            rfl
          refine two_ (i := 16) (j := 23) (Ni := some 25) (Nj := some 3) #[true, true, true, true, true, true, true, true, true, true, true, true, true, true, true, true, true, false, true, true, true, false, false, false, false] #[true, true, true, true, true, true, true, true, true, true, true, true, true, true, true, true, false, false, true, true, true, false, false, true, false] rfl rfl rfl rfl (by kernel_rfl) (by decide) (by decide) (fun K hK => ?_) (fun K hK => ?_)
          · skip
            refine goes_ Tryz.func44 (by kernel_rfl) rfl #[.pointer (some ⟨g, 0, none⟩), .int .i64 2] (by rfl) rfl rfl (by simp only [List.map_toArray, List.map_cons, List.map_nil]; rfl) ?_
            with_reducible refine (cT5 _ _ KC.out).mono ?_
            rintro x w5 ⟨rfl, hk⟩
            refine ⟨_, rfl, ?_⟩
            have KC := Aside0.mk (KC.out.then hk)
            refine hK.out _ _ ⟨keep_cell hk.keep hHeld.1 hE.out.tg, hk.keep.blk hHeld.2.1 (by have := HN.out.1; have := HXN.out; omega) (by simp), hk.below, KeepBut.then hHeld.2.2.2 hk.keep⟩ (fun hNow => ?_)
            clear hK K hHeld
            have hHeld := hNow
            clear hNow
            refine norm_ (a' := ?_) ?_ ?_
            rotate_left
            · show Act.put _ (some 25) _ = _
              simp only [Act.put, List.setIfInBounds_toArray, List.set_cons_zero, List.set_cons_succ, i64_w, i32_w]
              rfl
            refine pure_ (i := 17) (N := some 26) (v := ?_) (a' := ?_) #[true, true, true, true, true, true, true, true, true, true, true, true, true, true, true, true, true, true, true, true, true, false, false, false, false] rfl rfl (by kernel_rfl) (fun _ _ _ h => h) (Or.inl ⟨by rfl, ?_⟩) ?_ ?_
            rotate_left
            · intro w'
              go_simp
              with_reducible rfl
            rotate_left
            · simp only [Act.put, List.setIfInBounds_toArray, List.set_cons_zero, List.set_cons_succ, i64_w, i32_w]
              rfl
            refine two_ (i := 21) (j := 23) (Ni := some 30) (Nj := some 3) #[true, true, true, true, true, true, true, true, true, true, true, true, true, true, true, true, true, true, true, true, true, true, false, false, false] #[true, true, true, true, true, true, true, true, true, true, true, true, true, true, true, true, true, true, true, true, true, false, false, true, false] rfl rfl rfl rfl (by kernel_rfl) (by decide) (by decide) (fun K hK => ?_) (fun K hK => ?_)
            · skip
              refine goes_ Tryz.func60 (by kernel_rfl) rfl #[.pointer (some ⟨g, 0, none⟩)] (by rfl) rfl rfl (by simp only [List.map_toArray, List.map_cons, List.map_nil]; rfl) ?_
              with_reducible refine (cT6 _ _ KC.out).mono ?_
              rintro x w5 ⟨rfl, hk⟩
              refine ⟨_, rfl, ?_⟩
              have KC := Aside0.mk (KC.out.then hk)
              refine hK.out _ _ ⟨keep_cell hk.keep hHeld.1 hE.out.tg, hk.keep.blk hHeld.2.1 (by have := HN.out.1; have := HXN.out; omega) (by simp), hk.below, KeepBut.then hHeld.2.2.2 hk.keep⟩ (fun hNow => ?_)
              clear hK K hHeld
              have hHeld := hNow
              clear hNow
              refine norm_ (a' := ?_) ?_ ?_
              rotate_left
              · show Act.put _ (some 30) _ = _
                simp only [Act.put, List.setIfInBounds_toArray, List.set_cons_zero, List.set_cons_succ, i64_w, i32_w]
                rfl
              refine pure_ (i := 22) (N := some 31) (v := ?_) (a' := ?_) #[true, true, true, true, true, true, true, true, true, true, true, true, true, true, true, true, true, true, true, true, true, true, true, false, false] rfl rfl (by kernel_rfl) (fun _ _ _ h => h) (Or.inl ⟨by rfl, ?_⟩) ?_ ?_
              rotate_left
              · intro w'
                go_simp
                with_reducible rfl
              rotate_left
              · simp only [Act.put, List.setIfInBounds_toArray, List.set_cons_zero, List.set_cons_succ, i64_w, i32_w]
                rfl
              refine one_ (i := 23) (N := some 3) #[true, true, true, true, true, true, true, true, true, true, true, true, true, true, true, true, true, true, true, true, true, true, true, true, false] rfl rfl (by kernel_rfl) (by decide) (fun K hK => ?_)
              refine value_ (w1 := ?_) (v := ?_) (by rfl) rfl ?_ ?_
              rotate_left 2
              · go_simp
                constructor
                · rfl
                · rfl
              refine alloc_out (cs := #[.string ⟨#[]⟩, .string ⟨#[]⟩, .int .i64 0, .int .i64 0, .bool false, .slice none 0 0]) (ty := 92) ?_ ?_
              · first | rfl | simp
              intro pb w9 hbx hbb hge
              have HCB := Aside0.mk hbx
              have HGE := Aside0.mk (show xb < pb from by have := hHeld.2.1; have := blk_lt this; omega)
              have KC := Aside0.mk (KC.out.quiet hbb)
              refine hK.out _ _ ⟨cell_below_ hbb hHeld.1, blk_below hHeld.2.1 hbb, below_step hHeld.2.2.1 hbb, KeepBut.then hHeld.2.2.2 (KeepBut.of_below hbb g none)⟩ (fun hNow => ?_)
              clear hK K hHeld
              have hHeld := hNow
              clear hNow
              refine norm_ (a' := ?_) ?_ ?_
              rotate_left
              · show Act.put _ (some 3) _ = _
                simp only [Act.put, List.setIfInBounds_toArray, List.set_cons_zero, List.set_cons_succ, i64_w, i32_w]
                rfl
              exact norm_ (by simp only [putAll, Act.put, List.setIfInBounds_toArray, List.set_cons_zero, List.set_cons_succ]) (hCont pb _ ⟨hHeld, KC.out, HCB.out, HGE.out⟩)
            · skip
              refine value_ (w1 := ?_) (v := ?_) (by rfl) rfl ?_ ?_
              rotate_left 2
              · go_simp
                constructor
                · rfl
                · rfl
              refine alloc_out (cs := #[.string ⟨#[]⟩, .string ⟨#[]⟩, .int .i64 0, .int .i64 0, .bool false, .slice none 0 0]) (ty := 92) ?_ ?_
              · first | rfl | simp
              intro pb w9 hbx hbb hge
              have HCB := Aside0.mk hbx
              have HGE := Aside0.mk (show xb < pb from by have := hHeld.2.1; have := blk_lt this; omega)
              have KC := Aside0.mk (KC.out.quiet hbb)
              refine hK.out _ _ ⟨cell_below_ hbb hHeld.1, blk_below hHeld.2.1 hbb, below_step hHeld.2.2.1 hbb, KeepBut.then hHeld.2.2.2 (KeepBut.of_below hbb g none)⟩ (fun hNow => ?_)
              clear hK K hHeld
              have hHeld := hNow
              clear hNow
              refine norm_ (a' := ?_) ?_ ?_
              rotate_left
              · show Act.put _ (some 3) _ = _
                simp only [Act.put, List.setIfInBounds_toArray, List.set_cons_zero, List.set_cons_succ, i64_w, i32_w]
                rfl
              refine one_ (i := 21) (N := some 30) #[true, true, true, true, true, true, true, true, true, true, true, true, true, true, true, true, true, true, true, true, true, true, false, true, false] rfl rfl (by kernel_rfl) (by decide) (fun K hK => ?_)
              refine goes_ Tryz.func60 (by kernel_rfl) rfl #[.pointer (some ⟨g, 0, none⟩)] (by rfl) rfl rfl (by simp only [List.map_toArray, List.map_cons, List.map_nil]; rfl) ?_
              with_reducible refine (cT6 _ _ KC.out).mono ?_
              rintro x w5 ⟨rfl, hk⟩
              refine ⟨_, rfl, ?_⟩
              have KC := Aside0.mk (KC.out.then hk)
              have HCB := Aside0.mk (hk.keep.blk HCB.out (by have := HN.out.1; have := HGE.out; have := HXN.out; omega) (by simp))
              refine hK.out _ _ ⟨keep_cell hk.keep hHeld.1 hE.out.tg, hk.keep.blk hHeld.2.1 (by have := HN.out.1; have := HXN.out; omega) (by simp), hk.below, KeepBut.then hHeld.2.2.2 hk.keep⟩ (fun hNow => ?_)
              clear hK K hHeld
              have hHeld := hNow
              clear hNow
              refine norm_ (a' := ?_) ?_ ?_
              rotate_left
              · show Act.put _ (some 30) _ = _
                simp only [Act.put, List.setIfInBounds_toArray, List.set_cons_zero, List.set_cons_succ, i64_w, i32_w]
                rfl
              refine pure_ (i := 22) (N := some 31) (v := ?_) (a' := ?_) #[true, true, true, true, true, true, true, true, true, true, true, true, true, true, true, true, true, true, true, true, true, true, true, true, false] rfl rfl (by kernel_rfl) (fun _ _ _ h => h) (Or.inl ⟨by rfl, ?_⟩) ?_ ?_
              rotate_left
              · intro w'
                go_simp
                with_reducible rfl
              rotate_left
              · simp only [Act.put, List.setIfInBounds_toArray, List.set_cons_zero, List.set_cons_succ, i64_w, i32_w]
                rfl
              exact norm_ (by simp only [putAll, Act.put, List.setIfInBounds_toArray, List.set_cons_zero, List.set_cons_succ]) (hCont pb _ ⟨hHeld, KC.out, HCB.out, HGE.out⟩)
          · skip
            refine value_ (w1 := ?_) (v := ?_) (by rfl) rfl ?_ ?_
            rotate_left 2
            · go_simp
              constructor
              · rfl
              · rfl
            refine alloc_out (cs := #[.string ⟨#[]⟩, .string ⟨#[]⟩, .int .i64 0, .int .i64 0, .bool false, .slice none 0 0]) (ty := 92) ?_ ?_
            · first | rfl | simp
            intro pb w9 hbx hbb hge
            have HCB := Aside0.mk hbx
            have HGE := Aside0.mk (show xb < pb from by have := hHeld.2.1; have := blk_lt this; omega)
            have KC := Aside0.mk (KC.out.quiet hbb)
            refine hK.out _ _ ⟨cell_below_ hbb hHeld.1, blk_below hHeld.2.1 hbb, below_step hHeld.2.2.1 hbb, KeepBut.then hHeld.2.2.2 (KeepBut.of_below hbb g none)⟩ (fun hNow => ?_)
            clear hK K hHeld
            have hHeld := hNow
            clear hNow
            refine norm_ (a' := ?_) ?_ ?_
            rotate_left
            · show Act.put _ (some 3) _ = _
              simp only [Act.put, List.setIfInBounds_toArray, List.set_cons_zero, List.set_cons_succ, i64_w, i32_w]
              rfl
            refine one_ (i := 16) (N := some 25) #[true, true, true, true, true, true, true, true, true, true, true, true, true, true, true, true, true, false, true, true, true, false, false, true, false] rfl rfl (by kernel_rfl) (by decide) (fun K hK => ?_)
            refine goes_ Tryz.func44 (by kernel_rfl) rfl #[.pointer (some ⟨g, 0, none⟩), .int .i64 2] (by rfl) rfl rfl (by simp only [List.map_toArray, List.map_cons, List.map_nil]; rfl) ?_
            with_reducible refine (cT5 _ _ KC.out).mono ?_
            rintro x w5 ⟨rfl, hk⟩
            refine ⟨_, rfl, ?_⟩
            have KC := Aside0.mk (KC.out.then hk)
            have HCB := Aside0.mk (hk.keep.blk HCB.out (by have := HN.out.1; have := HGE.out; have := HXN.out; omega) (by simp))
            refine hK.out _ _ ⟨keep_cell hk.keep hHeld.1 hE.out.tg, hk.keep.blk hHeld.2.1 (by have := HN.out.1; have := HXN.out; omega) (by simp), hk.below, KeepBut.then hHeld.2.2.2 hk.keep⟩ (fun hNow => ?_)
            clear hK K hHeld
            have hHeld := hNow
            clear hNow
            refine norm_ (a' := ?_) ?_ ?_
            rotate_left
            · show Act.put _ (some 25) _ = _
              simp only [Act.put, List.setIfInBounds_toArray, List.set_cons_zero, List.set_cons_succ, i64_w, i32_w]
              rfl
            refine pure_ (i := 17) (N := some 26) (v := ?_) (a' := ?_) #[true, true, true, true, true, true, true, true, true, true, true, true, true, true, true, true, true, true, true, true, true, false, false, true, false] rfl rfl (by kernel_rfl) (fun _ _ _ h => h) (Or.inl ⟨by rfl, ?_⟩) ?_ ?_
            rotate_left
            · intro w'
              go_simp
              with_reducible rfl
            rotate_left
            · simp only [Act.put, List.setIfInBounds_toArray, List.set_cons_zero, List.set_cons_succ, i64_w, i32_w]
              rfl
            refine one_ (i := 21) (N := some 30) #[true, true, true, true, true, true, true, true, true, true, true, true, true, true, true, true, true, true, true, true, true, true, false, true, false] rfl rfl (by kernel_rfl) (by decide) (fun K hK => ?_)
            refine goes_ Tryz.func60 (by kernel_rfl) rfl #[.pointer (some ⟨g, 0, none⟩)] (by rfl) rfl rfl (by simp only [List.map_toArray, List.map_cons, List.map_nil]; rfl) ?_
            with_reducible refine (cT6 _ _ KC.out).mono ?_
            rintro x w5 ⟨rfl, hk⟩
            refine ⟨_, rfl, ?_⟩
            have KC := Aside0.mk (KC.out.then hk)
            have HCB := Aside0.mk (hk.keep.blk HCB.out (by have := HN.out.1; have := HGE.out; have := HXN.out; omega) (by simp))
            refine hK.out _ _ ⟨keep_cell hk.keep hHeld.1 hE.out.tg, hk.keep.blk hHeld.2.1 (by have := HN.out.1; have := HXN.out; omega) (by simp), hk.below, KeepBut.then hHeld.2.2.2 hk.keep⟩ (fun hNow => ?_)
            clear hK K hHeld
            have hHeld := hNow
            clear hNow
            refine norm_ (a' := ?_) ?_ ?_
            rotate_left
            · show Act.put _ (some 30) _ = _
              simp only [Act.put, List.setIfInBounds_toArray, List.set_cons_zero, List.set_cons_succ, i64_w, i32_w]
              rfl
            refine pure_ (i := 22) (N := some 31) (v := ?_) (a' := ?_) #[true, true, true, true, true, true, true, true, true, true, true, true, true, true, true, true, true, true, true, true, true, true, true, true, false] rfl rfl (by kernel_rfl) (fun _ _ _ h => h) (Or.inl ⟨by rfl, ?_⟩) ?_ ?_
            rotate_left
            · intro w'
              go_simp
              with_reducible rfl
            rotate_left
            · simp only [Act.put, List.setIfInBounds_toArray, List.set_cons_zero, List.set_cons_succ, i64_w, i32_w]
              rfl
            exact norm_ (by simp only [putAll, Act.put, List.setIfInBounds_toArray, List.set_cons_zero, List.set_cons_succ]) (hCont pb _ ⟨hHeld, KC.out, HCB.out, HGE.out⟩)
        · skip
          refine value_ (w1 := ?_) (v := ?_) (by rfl) rfl ?_ ?_
          rotate_left 2
          · go_simp
            constructor
            · rfl
            · rfl
          refine alloc_out (cs := #[.string ⟨#[]⟩, .string ⟨#[]⟩, .int .i64 0, .int .i64 0, .bool false, .slice none 0 0]) (ty := 92) ?_ ?_
          · first | rfl | simp
          intro pb w9 hbx hbb hge
          have HCB := Aside0.mk hbx
          have HGE := Aside0.mk (show xb < pb from by have := hHeld.2.1; have := blk_lt this; omega)
          have KC := Aside0.mk (KC.out.quiet hbb)
          refine hK.out _ _ ⟨cell_below_ hbb hHeld.1, blk_below hHeld.2.1 hbb, below_step hHeld.2.2.1 hbb, KeepBut.then hHeld.2.2.2 (KeepBut.of_below hbb g none)⟩ (fun hNow => ?_)
          clear hK K hHeld
          have hHeld := hNow
          clear hNow
          refine norm_ (a' := ?_) ?_ ?_
          rotate_left
          · show Act.put _ (some 3) _ = _
            simp only [Act.put, List.setIfInBounds_toArray, List.set_cons_zero, List.set_cons_succ, i64_w, i32_w]
            rfl
          refine one_ (i := 11) (N := some 20) #[true, true, true, true, true, true, true, true, true, true, true, true, false, true, true, true, false, false, true, true, true, false, false, true, false] rfl rfl (by kernel_rfl) (by decide) (fun K hK => ?_)
          refine goes_ Tryz.func44 (by kernel_rfl) rfl #[.pointer (some ⟨g, 0, none⟩), .int .i64 1] (by rfl) rfl rfl (by simp only [List.map_toArray, List.map_cons, List.map_nil]; rfl) ?_
          with_reducible refine (cT4 _ _ KC.out).mono ?_
          rintro x w5 ⟨rfl, hk⟩
          refine ⟨_, rfl, ?_⟩
          have KC := Aside0.mk (KC.out.then hk)
          have HCB := Aside0.mk (hk.keep.blk HCB.out (by have := HN.out.1; have := HGE.out; have := HXN.out; omega) (by simp))
          refine hK.out _ _ ⟨keep_cell hk.keep hHeld.1 hE.out.tg, hk.keep.blk hHeld.2.1 (by have := HN.out.1; have := HXN.out; omega) (by simp), hk.below, KeepBut.then hHeld.2.2.2 hk.keep⟩ (fun hNow => ?_)
          clear hK K hHeld
          have hHeld := hNow
          clear hNow
          refine norm_ (a' := ?_) ?_ ?_
          rotate_left
          · show Act.put _ (some 20) _ = _
            simp only [Act.put, List.setIfInBounds_toArray, List.set_cons_zero, List.set_cons_succ, i64_w, i32_w]
            rfl
          refine pure_ (i := 12) (N := some 21) (v := ?_) (a' := ?_) #[true, true, true, true, true, true, true, true, true, true, true, true, true, true, true, true, false, false, true, true, true, false, false, true, false] rfl rfl (by kernel_rfl) (fun _ _ _ h => h) (Or.inl ⟨by rfl, ?_⟩) ?_ ?_
          rotate_left
          · intro w'
            go_simp
            with_reducible rfl
          rotate_left
          · simp only [Act.put, List.setIfInBounds_toArray, List.set_cons_zero, List.set_cons_succ, i64_w, i32_w]
            rfl
          refine one_ (i := 16) (N := some 25) #[true, true, true, true, true, true, true, true, true, true, true, true, true, true, true, true, true, false, true, true, true, false, false, true, false] rfl rfl (by kernel_rfl) (by decide) (fun K hK => ?_)
          refine goes_ Tryz.func44 (by kernel_rfl) rfl #[.pointer (some ⟨g, 0, none⟩), .int .i64 2] (by rfl) rfl rfl (by simp only [List.map_toArray, List.map_cons, List.map_nil]; rfl) ?_
          with_reducible refine (cT5 _ _ KC.out).mono ?_
          rintro x w5 ⟨rfl, hk⟩
          refine ⟨_, rfl, ?_⟩
          have KC := Aside0.mk (KC.out.then hk)
          have HCB := Aside0.mk (hk.keep.blk HCB.out (by have := HN.out.1; have := HGE.out; have := HXN.out; omega) (by simp))
          refine hK.out _ _ ⟨keep_cell hk.keep hHeld.1 hE.out.tg, hk.keep.blk hHeld.2.1 (by have := HN.out.1; have := HXN.out; omega) (by simp), hk.below, KeepBut.then hHeld.2.2.2 hk.keep⟩ (fun hNow => ?_)
          clear hK K hHeld
          have hHeld := hNow
          clear hNow
          refine norm_ (a' := ?_) ?_ ?_
          rotate_left
          · show Act.put _ (some 25) _ = _
            simp only [Act.put, List.setIfInBounds_toArray, List.set_cons_zero, List.set_cons_succ, i64_w, i32_w]
            rfl
          refine pure_ (i := 17) (N := some 26) (v := ?_) (a' := ?_) #[true, true, true, true, true, true, true, true, true, true, true, true, true, true, true, true, true, true, true, true, true, false, false, true, false] rfl rfl (by kernel_rfl) (fun _ _ _ h => h) (Or.inl ⟨by rfl, ?_⟩) ?_ ?_
          rotate_left
          · intro w'
            go_simp
            with_reducible rfl
          rotate_left
          · simp only [Act.put, List.setIfInBounds_toArray, List.set_cons_zero, List.set_cons_succ, i64_w, i32_w]
            rfl
          refine one_ (i := 21) (N := some 30) #[true, true, true, true, true, true, true, true, true, true, true, true, true, true, true, true, true, true, true, true, true, true, false, true, false] rfl rfl (by kernel_rfl) (by decide) (fun K hK => ?_)
          refine goes_ Tryz.func60 (by kernel_rfl) rfl #[.pointer (some ⟨g, 0, none⟩)] (by rfl) rfl rfl (by simp only [List.map_toArray, List.map_cons, List.map_nil]; rfl) ?_
          with_reducible refine (cT6 _ _ KC.out).mono ?_
          rintro x w5 ⟨rfl, hk⟩
          refine ⟨_, rfl, ?_⟩
          have KC := Aside0.mk (KC.out.then hk)
          have HCB := Aside0.mk (hk.keep.blk HCB.out (by have := HN.out.1; have := HGE.out; have := HXN.out; omega) (by simp))
          refine hK.out _ _ ⟨keep_cell hk.keep hHeld.1 hE.out.tg, hk.keep.blk hHeld.2.1 (by have := HN.out.1; have := HXN.out; omega) (by simp), hk.below, KeepBut.then hHeld.2.2.2 hk.keep⟩ (fun hNow => ?_)
          clear hK K hHeld
          have hHeld := hNow
          clear hNow
          refine norm_ (a' := ?_) ?_ ?_
          rotate_left
          · show Act.put _ (some 30) _ = _
            simp only [Act.put, List.setIfInBounds_toArray, List.set_cons_zero, List.set_cons_succ, i64_w, i32_w]
            rfl
          refine pure_ (i := 22) (N := some 31) (v := ?_) (a' := ?_) #[true, true, true, true, true, true, true, true, true, true, true, true, true, true, true, true, true, true, true, true, true, true, true, true, false] rfl rfl (by kernel_rfl) (fun _ _ _ h => h) (Or.inl ⟨by rfl, ?_⟩) ?_ ?_
          rotate_left
          · intro w'
            go_simp
            with_reducible rfl
          rotate_left
          · simp only [Act.put, List.setIfInBounds_toArray, List.set_cons_zero, List.set_cons_succ, i64_w, i32_w]
            rfl
          exact norm_ (by simp only [putAll, Act.put, List.setIfInBounds_toArray, List.set_cons_zero, List.set_cons_succ]) (hCont pb _ ⟨hHeld, KC.out, HCB.out, HGE.out⟩)
      · skip
        refine value_ (w1 := ?_) (v := ?_) (by rfl) rfl ?_ ?_
        rotate_left 2
        · go_simp
          constructor
          · rfl
          · rfl
        refine alloc_out (cs := #[.string ⟨#[]⟩, .string ⟨#[]⟩, .int .i64 0, .int .i64 0, .bool false, .slice none 0 0]) (ty := 92) ?_ ?_
        · first | rfl | simp
        intro pb w9 hbx hbb hge
        have HCB := Aside0.mk hbx
        have HGE := Aside0.mk (show xb < pb from by have := hHeld.2.1; have := blk_lt this; omega)
        have KC := Aside0.mk (KC.out.quiet hbb)
        refine hK.out _ _ ⟨cell_below_ hbb hHeld.1, blk_below hHeld.2.1 hbb, below_step hHeld.2.2.1 hbb, KeepBut.then hHeld.2.2.2 (KeepBut.of_below hbb g none)⟩ (fun hNow => ?_)
        clear hK K hHeld
        have hHeld := hNow
        clear hNow
        refine norm_ (a' := ?_) ?_ ?_
        rotate_left
        · show Act.put _ (some 3) _ = _
          simp only [Act.put, List.setIfInBounds_toArray, List.set_cons_zero, List.set_cons_succ, i64_w, i32_w]
          rfl
        refine one_ (i := 7) (N := some 16) #[true, true, true, true, true, true, true, true, true, true, true, false, false, true, true, true, false, false, true, true, true, false, false, true, false] rfl rfl (by kernel_rfl) (by decide) (fun K hK => ?_)
        refine goes_ Tryz.func46 (by kernel_rfl) rfl #[.pointer (some ⟨g, 0, none⟩)] (by rfl) rfl rfl (by simp only [List.map_toArray, List.map_cons, List.map_nil]; rfl) ?_
        with_reducible refine (cT3 _ _ KC.out).mono ?_
        rintro x w5 ⟨rfl, hk⟩
        refine ⟨_, rfl, ?_⟩
        have KC := Aside0.mk (KC.out.then hk)
        have HCB := Aside0.mk (hk.keep.blk HCB.out (by have := HN.out.1; have := HGE.out; have := HXN.out; omega) (by simp))
        refine hK.out _ _ ⟨keep_cell hk.keep hHeld.1 hE.out.tg, hk.keep.blk hHeld.2.1 (by have := HN.out.1; have := HXN.out; omega) (by simp), hk.below, KeepBut.then hHeld.2.2.2 hk.keep⟩ (fun hNow => ?_)
        clear hK K hHeld
        have hHeld := hNow
        clear hNow
        refine norm_ (a' := ?_) ?_ ?_
        rotate_left
        · show Act.put _ (some 16) _ = _
          simp only [Act.put, List.setIfInBounds_toArray, List.set_cons_zero, List.set_cons_succ, i64_w, i32_w]
          rfl
        refine one_ (i := 11) (N := some 20) #[true, true, true, true, true, true, true, true, true, true, true, true, false, true, true, true, false, false, true, true, true, false, false, true, false] rfl rfl (by kernel_rfl) (by decide) (fun K hK => ?_)
        refine goes_ Tryz.func44 (by kernel_rfl) rfl #[.pointer (some ⟨g, 0, none⟩), .int .i64 1] (by rfl) rfl rfl (by simp only [List.map_toArray, List.map_cons, List.map_nil]; rfl) ?_
        with_reducible refine (cT4 _ _ KC.out).mono ?_
        rintro x w5 ⟨rfl, hk⟩
        refine ⟨_, rfl, ?_⟩
        have KC := Aside0.mk (KC.out.then hk)
        have HCB := Aside0.mk (hk.keep.blk HCB.out (by have := HN.out.1; have := HGE.out; have := HXN.out; omega) (by simp))
        refine hK.out _ _ ⟨keep_cell hk.keep hHeld.1 hE.out.tg, hk.keep.blk hHeld.2.1 (by have := HN.out.1; have := HXN.out; omega) (by simp), hk.below, KeepBut.then hHeld.2.2.2 hk.keep⟩ (fun hNow => ?_)
        clear hK K hHeld
        have hHeld := hNow
        clear hNow
        refine norm_ (a' := ?_) ?_ ?_
        rotate_left
        · show Act.put _ (some 20) _ = _
          simp only [Act.put, List.setIfInBounds_toArray, List.set_cons_zero, List.set_cons_succ, i64_w, i32_w]
          rfl
        refine pure_ (i := 12) (N := some 21) (v := ?_) (a' := ?_) #[true, true, true, true, true, true, true, true, true, true, true, true, true, true, true, true, false, false, true, true, true, false, false, true, false] rfl rfl (by kernel_rfl) (fun _ _ _ h => h) (Or.inl ⟨by rfl, ?_⟩) ?_ ?_
        rotate_left
        · intro w'
          go_simp
          with_reducible rfl
        rotate_left
        · simp only [Act.put, List.setIfInBounds_toArray, List.set_cons_zero, List.set_cons_succ, i64_w, i32_w]
          rfl
        refine one_ (i := 16) (N := some 25) #[true, true, true, true, true, true, true, true, true, true, true, true, true, true, true, true, true, false, true, true, true, false, false, true, false] rfl rfl (by kernel_rfl) (by decide) (fun K hK => ?_)
        refine goes_ Tryz.func44 (by kernel_rfl) rfl #[.pointer (some ⟨g, 0, none⟩), .int .i64 2] (by rfl) rfl rfl (by simp only [List.map_toArray, List.map_cons, List.map_nil]; rfl) ?_
        with_reducible refine (cT5 _ _ KC.out).mono ?_
        rintro x w5 ⟨rfl, hk⟩
        refine ⟨_, rfl, ?_⟩
        have KC := Aside0.mk (KC.out.then hk)
        have HCB := Aside0.mk (hk.keep.blk HCB.out (by have := HN.out.1; have := HGE.out; have := HXN.out; omega) (by simp))
        refine hK.out _ _ ⟨keep_cell hk.keep hHeld.1 hE.out.tg, hk.keep.blk hHeld.2.1 (by have := HN.out.1; have := HXN.out; omega) (by simp), hk.below, KeepBut.then hHeld.2.2.2 hk.keep⟩ (fun hNow => ?_)
        clear hK K hHeld
        have hHeld := hNow
        clear hNow
        refine norm_ (a' := ?_) ?_ ?_
        rotate_left
        · show Act.put _ (some 25) _ = _
          simp only [Act.put, List.setIfInBounds_toArray, List.set_cons_zero, List.set_cons_succ, i64_w, i32_w]
          rfl
        refine pure_ (i := 17) (N := some 26) (v := ?_) (a' := ?_) #[true, true, true, true, true, true, true, true, true, true, true, true, true, true, true, true, true, true, true, true, true, false, false, true, false] rfl rfl (by kernel_rfl) (fun _ _ _ h => h) (Or.inl ⟨by rfl, ?_⟩) ?_ ?_
        rotate_left
        · intro w'
          go_simp
          with_reducible rfl
        rotate_left
        · simp only [Act.put, List.setIfInBounds_toArray, List.set_cons_zero, List.set_cons_succ, i64_w, i32_w]
          rfl
        refine one_ (i := 21) (N := some 30) #[true, true, true, true, true, true, true, true, true, true, true, true, true, true, true, true, true, true, true, true, true, true, false, true, false] rfl rfl (by kernel_rfl) (by decide) (fun K hK => ?_)
        refine goes_ Tryz.func60 (by kernel_rfl) rfl #[.pointer (some ⟨g, 0, none⟩)] (by rfl) rfl rfl (by simp only [List.map_toArray, List.map_cons, List.map_nil]; rfl) ?_
        with_reducible refine (cT6 _ _ KC.out).mono ?_
        rintro x w5 ⟨rfl, hk⟩
        refine ⟨_, rfl, ?_⟩
        have KC := Aside0.mk (KC.out.then hk)
        have HCB := Aside0.mk (hk.keep.blk HCB.out (by have := HN.out.1; have := HGE.out; have := HXN.out; omega) (by simp))
        refine hK.out _ _ ⟨keep_cell hk.keep hHeld.1 hE.out.tg, hk.keep.blk hHeld.2.1 (by have := HN.out.1; have := HXN.out; omega) (by simp), hk.below, KeepBut.then hHeld.2.2.2 hk.keep⟩ (fun hNow => ?_)
        clear hK K hHeld
        have hHeld := hNow
        clear hNow
        refine norm_ (a' := ?_) ?_ ?_
        rotate_left
        · show Act.put _ (some 30) _ = _
          simp only [Act.put, List.setIfInBounds_toArray, List.set_cons_zero, List.set_cons_succ, i64_w, i32_w]
          rfl
        refine pure_ (i := 22) (N := some 31) (v := ?_) (a' := ?_) #[true, true, true, true, true, true, true, true, true, true, true, true, true, true, true, true, true, true, true, true, true, true, true, true, false] rfl rfl (by kernel_rfl) (fun _ _ _ h => h) (Or.inl ⟨by rfl, ?_⟩) ?_ ?_
        rotate_left
        · intro w'
          go_simp
          with_reducible rfl
        rotate_left
        · simp only [Act.put, List.setIfInBounds_toArray, List.set_cons_zero, List.set_cons_succ, i64_w, i32_w]
          rfl
        exact norm_ (by simp only [putAll, Act.put, List.setIfInBounds_toArray, List.set_cons_zero, List.set_cons_succ]) (hCont pb _ ⟨hHeld, KC.out, HCB.out, HGE.out⟩)
    · skip
      refine value_ (w1 := ?_) (v := ?_) (by rfl) rfl ?_ ?_
      rotate_left 2
      · go_simp
        constructor
        · rfl
        · rfl
      refine alloc_out_drew (cs := #[.string ⟨#[]⟩, .string ⟨#[]⟩, .int .i64 0, .int .i64 0, .bool false, .slice none 0 0]) (ty := 92) ?_ ?_
      · first | rfl | simp
      intro pb w9 hbx hbb hge
      have HCB := Aside0.mk hbx
      have HGE := Aside0.mk (show xb < pb from by have := hHeld.2.1; have := blk_lt this; omega)
      have KC := Aside0.mk (KC.out.quiet hbb)
      refine hK.out _ _ ⟨cell_below_ hbb hHeld.1, blk_below hHeld.2.1 hbb, below_step hHeld.2.2.1 hbb, KeepBut.then hHeld.2.2.2 (KeepBut.of_below hbb g none)⟩ (fun hNow => ?_)
      clear hK K hHeld
      have hHeld := hNow
      clear hNow
      refine norm_ (a' := ?_) ?_ ?_
      rotate_left
      · show Act.put _ (some 3) _ = _
        simp only [Act.put, List.setIfInBounds_toArray, List.set_cons_zero, List.set_cons_succ, i64_w, i32_w]
        rfl
      refine one_ (i := 3) (N := some 12) #[true, true, true, true, true, true, true, false, true, true, true, false, false, true, true, true, false, false, true, true, true, false, false, true, false] rfl rfl (by kernel_rfl) (by decide) (fun K hK => ?_)
      refine goes_ Tryz.func46 (by kernel_rfl) rfl #[.pointer (some ⟨g, 0, none⟩)] (by rfl) rfl rfl (by simp only [List.map_toArray, List.map_cons, List.map_nil]; rfl) ?_
      with_reducible refine (cT2 _ _ KC.out).mono ?_
      rintro x w5 ⟨rfl, hk⟩
      refine ⟨_, rfl, ?_⟩
      have KC := Aside0.mk (KC.out.then hk)
      have HCB := Aside0.mk (hk.keep.blk HCB.out (by have := HN.out.1; have := HGE.out; have := HXN.out; omega) (by simp))
      refine hK.out _ _ ⟨keep_cell hk.keep hHeld.1 hE.out.tg, hk.keep.blk hHeld.2.1 (by have := HN.out.1; have := HXN.out; omega) (by simp), hk.below, KeepBut.then hHeld.2.2.2 hk.keep⟩ (fun hNow => ?_)
      clear hK K hHeld
      have hHeld := hNow
      clear hNow
      refine norm_ (a' := ?_) ?_ ?_
      rotate_left
      · show Act.put _ (some 12) _ = _
        simp only [Act.put, List.setIfInBounds_toArray, List.set_cons_zero, List.set_cons_succ, i64_w, i32_w]
        rfl
      refine one_ (i := 7) (N := some 16) #[true, true, true, true, true, true, true, true, true, true, true, false, false, true, true, true, false, false, true, true, true, false, false, true, false] rfl rfl (by kernel_rfl) (by decide) (fun K hK => ?_)
      refine goes_ Tryz.func46 (by kernel_rfl) rfl #[.pointer (some ⟨g, 0, none⟩)] (by rfl) rfl rfl (by simp only [List.map_toArray, List.map_cons, List.map_nil]; rfl) ?_
      with_reducible refine (cT3 _ _ KC.out).mono ?_
      rintro x w5 ⟨rfl, hk⟩
      refine ⟨_, rfl, ?_⟩
      have KC := Aside0.mk (KC.out.then hk)
      have HCB := Aside0.mk (hk.keep.blk HCB.out (by have := HN.out.1; have := HGE.out; have := HXN.out; omega) (by simp))
      refine hK.out _ _ ⟨keep_cell hk.keep hHeld.1 hE.out.tg, hk.keep.blk hHeld.2.1 (by have := HN.out.1; have := HXN.out; omega) (by simp), hk.below, KeepBut.then hHeld.2.2.2 hk.keep⟩ (fun hNow => ?_)
      clear hK K hHeld
      have hHeld := hNow
      clear hNow
      refine norm_ (a' := ?_) ?_ ?_
      rotate_left
      · show Act.put _ (some 16) _ = _
        simp only [Act.put, List.setIfInBounds_toArray, List.set_cons_zero, List.set_cons_succ, i64_w, i32_w]
        rfl
      refine one_ (i := 11) (N := some 20) #[true, true, true, true, true, true, true, true, true, true, true, true, false, true, true, true, false, false, true, true, true, false, false, true, false] rfl rfl (by kernel_rfl) (by decide) (fun K hK => ?_)
      refine goes_ Tryz.func44 (by kernel_rfl) rfl #[.pointer (some ⟨g, 0, none⟩), .int .i64 1] (by rfl) rfl rfl (by simp only [List.map_toArray, List.map_cons, List.map_nil]; rfl) ?_
      with_reducible refine (cT4 _ _ KC.out).mono ?_
      rintro x w5 ⟨rfl, hk⟩
      refine ⟨_, rfl, ?_⟩
      have KC := Aside0.mk (KC.out.then hk)
      have HCB := Aside0.mk (hk.keep.blk HCB.out (by have := HN.out.1; have := HGE.out; have := HXN.out; omega) (by simp))
      refine hK.out _ _ ⟨keep_cell hk.keep hHeld.1 hE.out.tg, hk.keep.blk hHeld.2.1 (by have := HN.out.1; have := HXN.out; omega) (by simp), hk.below, KeepBut.then hHeld.2.2.2 hk.keep⟩ (fun hNow => ?_)
      clear hK K hHeld
      have hHeld := hNow
      clear hNow
      refine norm_ (a' := ?_) ?_ ?_
      rotate_left
      · show Act.put _ (some 20) _ = _
        simp only [Act.put, List.setIfInBounds_toArray, List.set_cons_zero, List.set_cons_succ, i64_w, i32_w]
        rfl
      refine pure_ (i := 12) (N := some 21) (v := ?_) (a' := ?_) #[true, true, true, true, true, true, true, true, true, true, true, true, true, true, true, true, false, false, true, true, true, false, false, true, false] rfl rfl (by kernel_rfl) (fun _ _ _ h => h) (Or.inl ⟨by rfl, ?_⟩) ?_ ?_
      rotate_left
      · intro w'
        go_simp
        with_reducible rfl
      rotate_left
      · simp only [Act.put, List.setIfInBounds_toArray, List.set_cons_zero, List.set_cons_succ, i64_w, i32_w]
        rfl
      refine one_ (i := 16) (N := some 25) #[true, true, true, true, true, true, true, true, true, true, true, true, true, true, true, true, true, false, true, true, true, false, false, true, false] rfl rfl (by kernel_rfl) (by decide) (fun K hK => ?_)
      refine goes_ Tryz.func44 (by kernel_rfl) rfl #[.pointer (some ⟨g, 0, none⟩), .int .i64 2] (by rfl) rfl rfl (by simp only [List.map_toArray, List.map_cons, List.map_nil]; rfl) ?_
      with_reducible refine (cT5 _ _ KC.out).mono ?_
      rintro x w5 ⟨rfl, hk⟩
      refine ⟨_, rfl, ?_⟩
      have KC := Aside0.mk (KC.out.then hk)
      have HCB := Aside0.mk (hk.keep.blk HCB.out (by have := HN.out.1; have := HGE.out; have := HXN.out; omega) (by simp))
      refine hK.out _ _ ⟨keep_cell hk.keep hHeld.1 hE.out.tg, hk.keep.blk hHeld.2.1 (by have := HN.out.1; have := HXN.out; omega) (by simp), hk.below, KeepBut.then hHeld.2.2.2 hk.keep⟩ (fun hNow => ?_)
      clear hK K hHeld
      have hHeld := hNow
      clear hNow
      refine norm_ (a' := ?_) ?_ ?_
      rotate_left
      · show Act.put _ (some 25) _ = _
        simp only [Act.put, List.setIfInBounds_toArray, List.set_cons_zero, List.set_cons_succ, i64_w, i32_w]
        rfl
      refine pure_ (i := 17) (N := some 26) (v := ?_) (a' := ?_) #[true, true, true, true, true, true, true, true, true, true, true, true, true, true, true, true, true, true, true, true, true, false, false, true, false] rfl rfl (by kernel_rfl) (fun _ _ _ h => h) (Or.inl ⟨by rfl, ?_⟩) ?_ ?_
      rotate_left
      · intro w'
        go_simp
        with_reducible rfl
      rotate_left
      · simp only [Act.put, List.setIfInBounds_toArray, List.set_cons_zero, List.set_cons_succ, i64_w, i32_w]
        rfl
      refine one_ (i := 21) (N := some 30) #[true, true, true, true, true, true, true, true, true, true, true, true, true, true, true, true, true, true, true, true, true, true, false, true, false] rfl rfl (by kernel_rfl) (by decide) (fun K hK => ?_)
      refine goes_ Tryz.func60 (by kernel_rfl) rfl #[.pointer (some ⟨g, 0, none⟩)] (by rfl) rfl rfl (by simp only [List.map_toArray, List.map_cons, List.map_nil]; rfl) ?_
      with_reducible refine (cT6 _ _ KC.out).mono ?_
      rintro x w5 ⟨rfl, hk⟩
      refine ⟨_, rfl, ?_⟩
      have KC := Aside0.mk (KC.out.then hk)
      have HCB := Aside0.mk (hk.keep.blk HCB.out (by have := HN.out.1; have := HGE.out; have := HXN.out; omega) (by simp))
      refine hK.out _ _ ⟨keep_cell hk.keep hHeld.1 hE.out.tg, hk.keep.blk hHeld.2.1 (by have := HN.out.1; have := HXN.out; omega) (by simp), hk.below, KeepBut.then hHeld.2.2.2 hk.keep⟩ (fun hNow => ?_)
      clear hK K hHeld
      have hHeld := hNow
      clear hNow
      refine norm_ (a' := ?_) ?_ ?_
      rotate_left
      · show Act.put _ (some 30) _ = _
        simp only [Act.put, List.setIfInBounds_toArray, List.set_cons_zero, List.set_cons_succ, i64_w, i32_w]
        rfl
      refine pure_ (i := 22) (N := some 31) (v := ?_) (a' := ?_) #[true, true, true, true, true, true, true, true, true, true, true, true, true, true, true, true, true, true, true, true, true, true, true, true, false] rfl rfl (by kernel_rfl) (fun _ _ _ h => h) (Or.inl ⟨by rfl, ?_⟩) ?_ ?_
      rotate_left
      · intro w'
        go_simp
        with_reducible rfl
      rotate_left
      · simp only [Act.put, List.setIfInBounds_toArray, List.set_cons_zero, List.set_cons_succ, i64_w, i32_w]
        rfl
      exact norm_ (by simp only [putAll, Act.put, List.setIfInBounds_toArray, List.set_cons_zero, List.set_cons_succ]) (hCont pb _ ⟨hHeld, KC.out, HCB.out, HGE.out⟩)
  clear KC
  rintro pb w4 ⟨hHeld, hTK4, hCB4, hpb4⟩
  refine norm_ (a' := ?_) ?_ ?_
  rotate_left
  · simp only [putAll, Act.put, List.setIfInBounds_toArray, List.set_cons_zero, List.set_cons_succ]
    rfl
  refine last_ (i := 24) (N := none) #[true, true, true, true, true, true, true, true, true, true, true, true, true, true, true, true, true, true, true, true, true, true, true, true, true] rfl rfl (by kernel_rfl) (by decide) (fun K hK => ?_)
  have HS4 := Aside0.mk hHeld
  have z0 : w4.cell? ⟨pb, 0, none⟩ = some (.string ⟨#[]⟩) := by rw [blk_cell hCB4]; rfl
  have z1 : w4.cell? ⟨pb, 1, none⟩ = some (.string ⟨#[]⟩) := by rw [blk_cell hCB4]; rfl
  have z2 : w4.cell? ⟨pb, 2, none⟩ = some (.int .i64 0) := by rw [blk_cell hCB4]; rfl
  have z3 : w4.cell? ⟨pb, 3, none⟩ = some (.int .i64 0) := by rw [blk_cell hCB4]; rfl
  have z4 : w4.cell? ⟨pb, 4, none⟩ = some (.bool false) := by rw [blk_cell hCB4]; rfl
  have z5 : w4.cell? ⟨pb, 5, none⟩ = some (.slice none 0 0) := by rw [blk_cell hCB4]; rfl
  have y0 := blk_frozen hCB4 0
  have y1 := blk_frozen hCB4 1
  have y2 := blk_frozen hCB4 2
  have y3 := blk_frozen hCB4 3
  have y4 := blk_frozen hCB4 4
  have y5 := blk_frozen hCB4 5
  refine skip_ (w1 := ?_) (by rfl) rfl ?_ ?_
  rotate_left
  · go_simp
    rfl
  refine hK.out _ _ ?_
  clear hK K
  refine done_ (by kernel_rfl) ?_
  have hp := put6_keep w4 pb 0 (.string (tx x2)) (.string (tx x3)) (.int .i64 (n4 : Int)) (.int .i64 (n5 : Int)) (.bool b6) (.slice none 0 0)
  have g1 := HN.out.1
  have g2 := HN.out.2
  have g3 := HXN.out
  have g4 := hE.out.hg
  have g5 := H.out.2.2.1.size
  have ht5 : TK3 g ⟨r6, e6, false⟩ (put6 w4 pb 0 (.string (tx x2)) (.string (tx x3)) (.int .i64 (n4 : Int)) (.int .i64 (n5 : Int)) (.bool b6) (.slice none 0 0)) := hp.blk hTK4.tk (by omega) (by simp)
  have hb5 := put6_below hTK4.below (show w0.heap.size ≤ pb by omega) 0 (.string (tx x2)) (.string (tx x3)) (.int .i64 (n4 : Int)) (.int .i64 (n5 : Int)) (.bool b6) (.slice none 0 0)
  have hk5 := keep_put hTK4.keep hp (show w1.heap.size ≤ pb by omega)
  have hx5 := hp.blk hHeld.2.1 (show xb ≠ pb by omega) (by simp)
  have hp5 := put6_blk0 hCB4 (.string (tx x2)) (.string (tx x3)) (.int .i64 (n4 : Int)) (.int .i64 (n5 : Int)) (.bool b6) (.slice none 0 0)
  change Exit.then _ _ _ _ (put6 w4 pb 0 (.string (tx x2)) (.string (tx x3)) (.int .i64 (n4 : Int)) (.int .i64 (n5 : Int)) (.bool b6) (.slice none 0 0))
  generalize put6 w4 pb 0 (.string (tx x2)) (.string (tx x3)) (.int .i64 (n4 : Int)) (.int .i64 (n5 : Int)) (.bool b6) (.slice none 0 0) = w5 at ht5 hb5 hk5 hx5 hp5 ⊢
  have htp5 := hk5.blk ((H.out.2.1.mod.2 tb (blk_lt hE.out.tp) hE.out.tg hE.out.tc).trans hE.out.tp) hE.out.tg (by simp)
  have hce : CE g pb tb w0 w5 := ⟨by omega, hE.out.tg, by omega, blk_lt ht5, blk_lt hp5, g4, by omega, hb5.size, htp5⟩
  have cM := many4 hce (by simp) rfl ht5 hp5 hb5
  rw [← HK7.out] at cM
  dsimp only at cM
  have e5 : w5.cell? ⟨tb, 0, none⟩ = some (.pointer (some ⟨g, 0, none⟩)) := by rw [blk_cell htp5]; rfl
  have HX5 := Aside0.mk hx5
  have HNE := Aside0.mk (And.intro (show xb ≠ g by omega) (And.intro (show xb ≠ pb by omega) (And.intro (show w1.heap.size ≤ pb by omega) (And.intro (show w1.heap.size ≤ xb by omega) (show w0.heap.size ≤ xb by omega)))))
  have HK5 := Aside0.mk (And.intro hk5 (blk_lt hx5))
  clear hp hTK4 hCB4 hpb4 hHeld HS4 z0 z1 z2 z3 z4 z5 y0 y1 y2 y3 y4 y5 g1 g2 g3 g4 g5 ht5 hb5 hk5 hx5 hp5 htp5 hce q1 q2 q3 q4 hn4 hn5 cT2 cT3 cT4 cT5 cT6 HTW HX HXN HK7
  go_upto_region 4 with (go_at_call 58; refine cM.mono ?_; rintro x w6 ⟨rfl, v6, m1, m2, m3, m4, m5⟩; obtain ⟨A6, c6, rfl⟩ := R_slice m4; have hp6 : w6.heap[pb]? = some (.cells #[.string (tx x2), .string (tx x3), .int .i64 (n4 : Int), .int .i64 (n5 : Int), .bool b6, .slice A6 l6.length c6] 92 (0, 0)) := m3; have z0 : w6.cell? ⟨pb, 0, none⟩ = some (.string (tx x2)) := (by rw [blk_cell hp6]; rfl); have z1 : w6.cell? ⟨pb, 1, none⟩ = some (.string (tx x3)) := (by rw [blk_cell hp6]; rfl); have z2 : w6.cell? ⟨pb, 2, none⟩ = some (.int .i64 (n4 : Int)) := (by rw [blk_cell hp6]; rfl); have z3 : w6.cell? ⟨pb, 3, none⟩ = some (.int .i64 (n5 : Int)) := (by rw [blk_cell hp6]; rfl); have z4 : w6.cell? ⟨pb, 4, none⟩ = some (.bool b6) := (by rw [blk_cell hp6]; rfl); have z5 : w6.cell? ⟨pb, 5, none⟩ = some (.slice A6 l6.length c6) := (by rw [blk_cell hp6]; rfl); have hx6 : w6.heap[xb]? = some (.cells #[.string (tx x1), .string ⟨#[]⟩, .string ⟨#[]⟩, .int .i64 0, .int .i64 0, .bool false, .slice none 0 0] 94 (0, 0)) := (m5.2 xb (blk_lt HX5.out) HNE.out.1 HNE.out.2.1).trans HX5.out; have y1 : w6.cell? ⟨xb, 1, none⟩ = some (.string ⟨#[]⟩) := (by rw [blk_cell hx6]; rfl); have y2 : w6.cell? ⟨xb, 2, none⟩ = some (.string ⟨#[]⟩) := (by rw [blk_cell hx6]; rfl); have y3 : w6.cell? ⟨xb, 3, none⟩ = some (.int .i64 0) := (by rw [blk_cell hx6]; rfl); have y4 : w6.cell? ⟨xb, 4, none⟩ = some (.int .i64 0) := (by rw [blk_cell hx6]; rfl); have y5 : w6.cell? ⟨xb, 5, none⟩ = some (.bool false) := (by rw [blk_cell hx6]; rfl); have y6 : w6.cell? ⟨xb, 6, none⟩ = some (.slice none 0 0) := (by rw [blk_cell hx6]; rfl); have f1 := blk_frozen hx6 1; have f2 := blk_frozen hx6 2; have f3 := blk_frozen hx6 3; have f4 := blk_frozen hx6 4; have f5 := blk_frozen hx6 5; have f6 := blk_frozen hx6 6; have M := Aside0.mk (And.intro m1 (And.intro m2 (And.intro m4 (And.intro m5 hx6)))); clear m1 m2 m3 m4 m5 hp6 hx6 cM e5)
  clear z0 z1 z2 z3 z4 z5 y1 y2 y3 y4 y5 y6 f1 f2 f3 f4 f5 f6
  have hq := put6_keep w6 xb 1 (.string (tx x2)) (.string (tx x3)) (.int .i64 (n4 : Int)) (.int .i64 (n5 : Int)) (.bool b6) (.slice A6 l6.length c6)
  have ht7 : TK3 g t7 (put6 w6 xb 1 (.string (tx x2)) (.string (tx x3)) (.int .i64 (n4 : Int)) (.int .i64 (n5 : Int)) (.bool b6) (.slice A6 l6.length c6)) := hq.blk M.out.1 (Ne.symm HNE.out.1) (by simp)
  have hb7 := put6_below M.out.2.1 HNE.out.2.2.2.2 1 (.string (tx x2)) (.string (tx x3)) (.int .i64 (n4 : Int)) (.int .i64 (n5 : Int)) (.bool b6) (.slice A6 l6.length c6)
  have hk7 := keep_put (keep_mod HK5.out.1 M.out.2.2.2.1 HNE.out.2.2.1) hq HNE.out.2.2.2.1
  have hx7 := put6_blk1 M.out.2.2.2.2 (.string (tx x2)) (.string (tx x3)) (.int .i64 (n4 : Int)) (.int .i64 (n5 : Int)) (.bool b6) (.slice A6 l6.length c6)
  have hr7 := Kd.R_keep M.out.2.2.1 hq (fun k hk => by have := HK5.out.2; omega)
  change Code.wp _ _ _ _ (put6 w6 xb 1 (.string (tx x2)) (.string (tx x3)) (.int .i64 (n4 : Int)) (.int .i64 (n5 : Int)) (.bool b6) (.slice A6 l6.length c6))
  generalize put6 w6 xb 1 (.string (tx x2)) (.string (tx x3)) (.int .i64 (n4 : Int)) (.int .i64 (n5 : Int)) (.bool b6) (.slice A6 l6.length c6) = w7 at ht7 hb7 hk7 hx7 hr7 ⊢
  have hs7 := hk7.blk H.out.2.1.blk hE.out.cg (by simp)
  have HRS := Aside0.mk (Kd.R_keep H.out.2.1.row hk7 (fun k hk => by have := hE.out.gl; omega))
  have HMP := Aside0.mk (k94_mkM w7 w0.heap.size (fun k => w1.heap.size ≤ k) ⟨tx x1, ⟨tx x2, tx x3, (n4 : Int), (n5 : Int), b6, l6⟩⟩ (Kd.R_mono hr7 (fun k hk => Nat.le_trans HK5.out.1.1 hk)))
  have z1 : w7.cell? ⟨cb, 1, none⟩ = some v := by rw [blk_cell hs7]; simp [hcs]
  have y0 : w7.cell? ⟨xb, 0, none⟩ = some (.string (tx x1)) := by rw [blk_cell hx7]; rfl
  have y1 : w7.cell? ⟨xb, 1, none⟩ = some (.string (tx x2)) := by rw [blk_cell hx7]; rfl
  have y2 : w7.cell? ⟨xb, 2, none⟩ = some (.string (tx x3)) := by rw [blk_cell hx7]; rfl
  have y3 : w7.cell? ⟨xb, 3, none⟩ = some (.int .i64 (n4 : Int)) := by rw [blk_cell hx7]; rfl
  have y4 : w7.cell? ⟨xb, 4, none⟩ = some (.int .i64 (n5 : Int)) := by rw [blk_cell hx7]; rfl
  have y5 : w7.cell? ⟨xb, 5, none⟩ = some (.bool b6) := by rw [blk_cell hx7]; rfl
  have y6 : w7.cell? ⟨xb, 6, none⟩ = some (.slice A6 l6.length c6) := by rw [blk_cell hx7]; rfl
  have HB7 := Aside0.mk hb7
  have HS7 := Aside0.mk hs7
  have HK7 := Aside0.mk hk7
  have HT7 := Aside0.mk ht7
  have HSZ := Aside0.mk (show (l.length + 1) * 96 ≤ 140737488351232 by have := H.out.2.2.2; omega)
  clear hq ht7 hb7 hk7 hx7 hr7 hs7 M HX5
  go_wp2_with (at_builtin; refine Kd.R_append k94 (w0 := w0) w0.heap.size rfl (.tmp 38) (.tmp 40) 26 94 (.agg #[.string ⟨#[]⟩, .string ⟨#[]⟩, .string ⟨#[]⟩, .int .i64 0, .int .i64 0, .bool false, .slice none 0 0]) 96 (by rfl) Tryz.underlying26 info94 rfl (by decide) (by decide) v l ⟨tx x1, ⟨tx x2, tx x3, (n4 : Int), (n5 : Int), b6, l6⟩⟩ [.string (tx x1), .string (tx x2), .string (tx x3), .int .i64 (n4 : Int), .int .i64 (n5 : Int), .bool b6, .slice A6 l6.length c6] (fun k => wE.heap.size ≤ k) (fun k => w1.heap.size ≤ k) rfl rfl HMP.out (fun k hk => ⟨Nat.le_trans H.out.2.1.mod.1 hk, own_block_lt H.out.2.1.row k hk⟩) (fun k hk => Nat.le_trans H.out.2.1.mod.1 (Nat.le_trans HK7.out.1 hk)) HRS.out HB7.out HB7.out.size (by have := HSZ.out; omega) ?_; intro v1 w9 hr9 hb9 hg9 hat9; obtain ⟨gb, cap, rfl⟩ := R_form hr9 (by simp); have hs9 := blk_grown HS7.out hg9 (own_far HRS.out cb hE.out.cl); have z9 : w9.cell? ⟨cb, 1, none⟩ = some v := (by rw [blk_cell hs9]; simp [hcs]); have y9 := blk_frozen hs9 1; have H9 := Aside0.mk (And.intro hr9 (And.intro hb9 (And.intro hg9 hs9))); clear hr9 hb9 hg9 hat9 hs9)
  clear z1 y0 y1 y2 y3 y4 y5 y6 z9 y9
  go_end0
  refine ⟨rfl, ?_, ⟨by simp; exact H.out.2.2.2, .slice (some ⟨gb, 0, none⟩) (l.length + 1) cap, ?_, ?_, ?_⟩, ?_⟩
  · exact blk_far (blk_grown HT7.out H9.out.2.2.1 (own_far HRS.out g hE.out.gl)) (Ne.symm hE.out.cg) _
  · exact blk_put H9.out.2.2.2 1 _ (by simp)
  · have h8 := H9.out.1
    rw [List.length_append, List.length_singleton] at h8
    exact Kd.R_far h8 (fun k hk => by have := hE.out.cl; show k ≠ cb; omega) _
  · exact (((H.out.2.1.mod.keep HK7.out).grown H9.out.2.2.1 (own_far HRS.out)).set _ _)
  · exact H9.out.2.1.setCell hE.out.hc _
end Go.Proofs.YtlmeelmjodjfpaaGreatDoor.PB
end
section
namespace Go.Proofs.YtlmeelmjodjfpaaGreatDoor.PB
open Go.RowKit Go.Maps Go.Proofs.YtlmeelmjodjfpaaGreatDoorW.PrintWords Go.Proofs.YtlmeelmjodjfpaaGreatDoorW.PrintLast Go.Proofs.YtlmeelmjodjfpaaGreatDoorW.PrintMore
open Fr (tx tx_list tx_size tx_app)
open Go.Proofs.YtlmeelmjodjfpaaGreatDoor.Op (num numF)
set_option linter.unusedVariables false
set_option linter.unusedSimpArgs false
theorem rounds_all {σ : Type} (one : St → σ → St × σ) (P : Nat → σ → Prop) (h : ∀ t j s, P j s → P (j + 1) (one t s).2) : ∀ (k j : Nat) (t : St) (s : σ), P j s → ∃ i, i ≤ j + k ∧ P i (rounds one k t s).2 := by
  intro k
  induction k with
  | zero => intro j t s hs; exact ⟨j, by omega, hs⟩
  | succ k ih =>
    intro j t s hs
    unfold rounds
    split
    · exact ⟨j, by omega, hs⟩
    · obtain ⟨i, hi, hp⟩ := ih (j + 1) (one t s).1 (one t s).2 (h t j s hs)
      exact ⟨i, by omega, hp⟩
theorem manyT_all {σ : Type} (n most : Nat) (one : St → σ → St × σ) (P : Nat → σ → Prop) (h : ∀ t j s, P j s → P (j + 1) (one t s).2) (t : St) (s : σ) (h0 : P 0 s) : ∃ i, i ≤ most ∧ P i (manyT n most one t s).2 := by
  unfold manyT
  split
  · exact ⟨0, by omega, h0⟩
  · split
    · exact ⟨0, by omega, h0⟩
    · rename_i h2
      obtain ⟨i, hi, hp⟩ := rounds_all one P h (takeT n t.r t.e).1 0 ⟨(takeT n t.r t.e).2.1, (takeT n t.r t.e).2.2, t.f⟩ s h0
      exact ⟨i, by omega, hp⟩
def AllN {α : Type} (Q : α → Prop) (j : Nat) (l : List α) : Prop := l.length = j ∧ ∀ x ∈ l, Q x
theorem AllN.snoc {α : Type} {Q : α → Prop} {j : Nat} {l : List α} (h : AllN Q j l) {x : α} (hx : Q x) : AllN Q (j + 1) (l ++ [x]) :=
  ⟨by simp [h.1], fun y hy => by rcases List.mem_append.1 hy with hy | hy; exact h.2 y hy; rw [List.mem_singleton.1 hy]; exact hx⟩
theorem textT_len (r : List UInt8) (e : Int) : (textT r e).1.length ≤ 4096 := by
  unfold textT
  split
  · simp
  · split
    · simp
    · split
      · simp
      · split
        · simp
        · simp only [List.length_take]; omega
theorem tx_small {l : List UInt8} (h : l.length ≤ 4096) : (tx l).size ≤ 140737488355328 := by rw [tx_size]; omega
theorem textT_small (r : List UInt8) (e : Int) : (tx (textT r e).1).size ≤ 140737488355328 := tx_small (textT_len r e)
theorem cont_small (t : St) : SmC (contT t).1 := by
  unfold contT
  obtain ⟨i1, hi1, hl1, hs1⟩ := manyT_all 1 16 one1 (AllN (fun s : ByteArray => s.size ≤ 140737488355328)) (fun t j s hs => hs.snoc (textT_small _ _)) ⟨(textT (textT t.r t.e).2.1 (textT t.r t.e).2.2).2.1, (textT (textT t.r t.e).2.1 (textT t.r t.e).2.2).2.2, t.f⟩ [] ⟨rfl, by simp⟩
  generalize hm1 : manyT 1 16 one1 ⟨(textT (textT t.r t.e).2.1 (textT t.r t.e).2.2).2.1, (textT (textT t.r t.e).2.1 (textT t.r t.e).2.2).2.2, t.f⟩ [] = m1 at hl1 hs1 ⊢
  obtain ⟨i2, hi2, hl2, hs2⟩ := manyT_all 1 16 one2 (AllN okP) (fun t j s hs => hs.snoc (by
    have h1 := takeT_lt 2 t.r t.e (by decide)
    have h2 := takeT_lt 1 (takeT 2 t.r t.e).2.1 (takeT 2 t.r t.e).2.2 (by decide)
    exact ⟨WalkArith.wf_i64 (by dsimp only; omega), WalkArith.wf_i64 (by dsimp only; omega)⟩)) m1.1 [] ⟨rfl, by simp⟩
  generalize hm2 : manyT 1 16 one2 m1.1 [] = m2 at hl2 hs2 ⊢
  dsimp only
  have a1 := textT_small t.r t.e
  have a2 := textT_small (textT t.r t.e).2.1 (textT t.r t.e).2.2
  rw [hm1]
  rw [hm2]
  split
  · exact ⟨a1, a2, hs1, hs2, by simp, by dsimp only; omega, by dsimp only; omega, by simp⟩
  · obtain ⟨i3, hi3, hl3, hs3⟩ := manyT_all 1 16 one3 (AllN (fun v : S161 => v.f0.size ≤ 140737488355328 ∧ v.f1.size ≤ 140737488355328)) (fun t j s hs => hs.snoc ⟨textT_small _ _, textT_small _ _⟩) ⟨(takeT 4 (takeT 4 m2.1.r m2.1.e).2.1 (takeT 4 m2.1.r m2.1.e).2.2).2.1, (takeT 4 (takeT 4 m2.1.r m2.1.e).2.1 (takeT 4 m2.1.r m2.1.e).2.2).2.2, m2.1.f⟩ [] ⟨rfl, by simp⟩
    exact ⟨a1, a2, hs1, hs2, hs3, by dsimp only; omega, by dsimp only; omega, by dsimp only; omega⟩
theorem pod_small (t : St) (l : List S94) : ∀ j, AllN SmP j l → AllN SmP (j + 1) (one5 t l).2 := by
  intro j h
  unfold one5
  dsimp only
  refine h.snoc ?_
  obtain ⟨i, hi, hl, hs⟩ := manyT_all 1 16 one4 (AllN SmC) (fun t j s hs => hs.snoc (cont_small t)) ⟨(flagT (takeT 2 (takeT 1 (textT (textT (textT t.r t.e).2.1 (textT t.r t.e).2.2).2.1 (textT (textT t.r t.e).2.1 (textT t.r t.e).2.2).2.2).2.1 (textT (textT (textT t.r t.e).2.1 (textT t.r t.e).2.2).2.1 (textT (textT t.r t.e).2.1 (textT t.r t.e).2.2).2.2).2.2).2.1 (takeT 1 (textT (textT (textT t.r t.e).2.1 (textT t.r t.e).2.2).2.1 (textT (textT t.r t.e).2.1 (textT t.r t.e).2.2).2.2).2.1 (textT (textT (textT t.r t.e).2.1 (textT t.r t.e).2.2).2.1 (textT (textT t.r t.e).2.1 (textT t.r t.e).2.2).2.2).2.2).2.2).2.1 (takeT 2 (takeT 1 (textT (textT (textT t.r t.e).2.1 (textT t.r t.e).2.2).2.1 (textT (textT t.r t.e).2.1 (textT t.r t.e).2.2).2.2).2.1 (textT (textT (textT t.r t.e).2.1 (textT t.r t.e).2.2).2.1 (textT (textT t.r t.e).2.1 (textT t.r t.e).2.2).2.2).2.2).2.1 (takeT 1 (textT (textT (textT t.r t.e).2.1 (textT t.r t.e).2.2).2.1 (textT (textT t.r t.e).2.1 (textT t.r t.e).2.2).2.2).2.1 (textT (textT (textT t.r t.e).2.1 (textT t.r t.e).2.2).2.1 (textT (textT t.r t.e).2.1 (textT t.r t.e).2.2).2.2).2.2).2.2).2.2).2.1, (flagT (takeT 2 (takeT 1 (textT (textT (textT t.r t.e).2.1 (textT t.r t.e).2.2).2.1 (textT (textT t.r t.e).2.1 (textT t.r t.e).2.2).2.2).2.1 (textT (textT (textT t.r t.e).2.1 (textT t.r t.e).2.2).2.1 (textT (textT t.r t.e).2.1 (textT t.r t.e).2.2).2.2).2.2).2.1 (takeT 1 (textT (textT (textT t.r t.e).2.1 (textT t.r t.e).2.2).2.1 (textT (textT t.r t.e).2.1 (textT t.r t.e).2.2).2.2).2.1 (textT (textT (textT t.r t.e).2.1 (textT t.r t.e).2.2).2.1 (textT (textT t.r t.e).2.1 (textT t.r t.e).2.2).2.2).2.2).2.2).2.1 (takeT 2 (takeT 1 (textT (textT (textT t.r t.e).2.1 (textT t.r t.e).2.2).2.1 (textT (textT t.r t.e).2.1 (textT t.r t.e).2.2).2.2).2.1 (textT (textT (textT t.r t.e).2.1 (textT t.r t.e).2.2).2.1 (textT (textT t.r t.e).2.1 (textT t.r t.e).2.2).2.2).2.2).2.1 (takeT 1 (textT (textT (textT t.r t.e).2.1 (textT t.r t.e).2.2).2.1 (textT (textT t.r t.e).2.1 (textT t.r t.e).2.2).2.2).2.1 (textT (textT (textT t.r t.e).2.1 (textT t.r t.e).2.2).2.1 (textT (textT t.r t.e).2.1 (textT t.r t.e).2.2).2.2).2.2).2.2).2.2).2.2, t.f⟩ [] ⟨rfl, by simp⟩
  exact ⟨textT_small _ _, textT_small _ _, textT_small _ _, hs, by dsimp only; omega⟩
/-- What Decode takes of bytes: the number, the pods, the error. -/
def decT (b : List UInt8) : Nat × List S94 × Int :=
  let p := takeT 8 b 0
  let m := manyT 2 1024 one5 ⟨p.2.1, p.2.2, false⟩ ([] : List S94)
  if m.1.f then (0, [], 18) else
    if endT m.1.r m.1.e ≠ 0 then (0, [], endT m.1.r m.1.e) else
      if stateP m.2 ≠ 0 then (0, [], stateP m.2) else (p.1, m.2, 0)
theorem enters59 : ∀ (a : Array Value) (W : World), (callFunc 59 a).run Tryz.prog W = .ok (.enter 59 a) W := enters_of Tryz.func59 (by kernel_rfl) rfl
set_option maxHeartbeats 1000000
set_option maxRecDepth 100000
/-- What stands while a state is taken. -/
structure DD (g sb vb rb : Nat) (w0 : World) (cs : Array Value) (t : St) (w : World) : Prop where
  tk : TK3 g t w
  blk : w.heap[sb]? = some (.cells cs 28 (0, 0))
  rblk : w.heap[rb]? = some (.cells #[.int .u64 0, .slice none 0 0] 28 (0, 0))
  tp : w.heap[vb]? = some (.cells #[.pointer (some ⟨g, 0, none⟩)] 125 (0, 0))
  below : Below w0.heap.size w0 w
  hr : w0.heap.size ≤ rb
  rg : rb < g
  gv : g < vb
  vs : vb < sb
theorem DD.ce {g sb vb rb : Nat} {w0 : World} {cs : Array Value} {t : St} {w : World} (h : DD g sb vb rb w0 cs t w) : CE g sb vb w0 w := by
  obtain ⟨h1, h2, h3, h4, h5, h6, h7, h8, h9⟩ := h
  have h10 := blk_lt h2
  exact ⟨by omega, by omega, by omega, by omega, h10, by omega, by omega, h5.size, h4⟩
theorem DD.ptr {g sb vb rb : Nat} {w0 : World} {cs : Array Value} {t : St} {w : World} (h : DD g sb vb rb w0 cs t w) : w.cell? ⟨vb, 0, none⟩ = some (.pointer (some ⟨g, 0, none⟩)) := by rw [blk_cell h.tp]; rfl
theorem DD.moved {g sb vb rb : Nat} {w0 : World} {cs : Array Value} {t : St} {w w2 : World} (h : DD g sb vb rb w0 cs t w) (m : Mod2 g sb w w2) {cs2 : Array Value} {t2 : St} (hk : TK3 g t2 w2) (hb : w2.heap[sb]? = some (.cells cs2 28 (0, 0))) (hB : Below w0.heap.size w0 w2) : DD g sb vb rb w0 cs2 t2 w2 := by
  obtain ⟨h1, h2, h3, h4, h5, h6, h7, h8, h9⟩ := h
  exact ⟨hk, hb, (m.2 rb (blk_lt h3) (by omega) (by omega)).trans h3, (m.2 vb (blk_lt h4) (by omega) (by omega)).trans h4, hB, h6, h7, h8, h9⟩
theorem DD.below' {g sb vb rb : Nat} {w0 : World} {cs : Array Value} {t : St} {w w2 : World} (h : DD g sb vb rb w0 cs t w) (hb : Below w.heap.size w w2) : DD g sb vb rb w0 cs t w2 :=
  h.moved (Mod2.below (Mod2.refl _ _ _) hb) (h.tk.below hb) (blk_below h.blk hb) (below_step h.below hb)
theorem many5 {g sb vb rb : Nat} {w0 w : World} {cs : Array Value} {t : St} (h : DD g sb vb rb w0 cs t w) (hc : 1 < cs.size) (hz : cs.setIfInBounds 1 (.slice none 0 0) = cs) :
    Calls Tryz.prog 58 #[.pointer (some ⟨g, 0, none⟩), .int .i64 2, .int .i64 1024, .func (.func 59) #[] #[.pointer (some ⟨vb, 0, none⟩), .pointer (some ⟨sb, 0, none⟩)]] w fun x w2 => x = .returned (.tuple #[]) ∧
      ∃ v, DD g sb vb rb w0 (cs.setIfInBounds 1 v) (manyT 2 1024 one5 t []).1 w2 ∧ k94.R 94 w2 w0.heap.size (fun k => w.heap.size ≤ k) v (manyT 2 1024 one5 t []).2 := by
  have E := h.ce
  refine (many.calls 2 1024 (by decide) (by decide) 59 enters59 _ (C1I k94 94 1 28 g sb w0 w cs) one5 (C1I.keep E) E.hg (fun j r l w1 hj hI => clos5.calls E hc j r l w1 hj hI) t [] ⟨h.tk, ⟨rfl, .slice none 0 0, by rw [hz]; exact h.blk, Kd.R_nil _ _ _ _ _, Mod2.refl _ _ _⟩, h.below⟩).mono ?_
  rintro x w2 ⟨rfl, j, _, ⟨h1, ⟨_, v, h2, h3, h4⟩, h5⟩⟩
  exact ⟨rfl, v, h.moved h4 h1 h2 h5, h3⟩
/-- What Decode comes to. -/
def DecPost (w : World) (p : Nat × List S94 × Int) (x : Ending) (w' : World) : Prop :=
  ∃ v, x = .returned (.tuple #[.agg #[.int .u64 (p.1 : Int), v], .int .i64 p.2.2]) ∧ k94.R 94 w' w.heap.size (fun k => w.heap.size ≤ k) v p.2.1 ∧ Below w.heap.size w w'
def put2 (w : World) (b : Nat) (v0 v1 : Value) : World := (w.setCell ⟨b, 0, none⟩ v0).setCell ⟨b, 1, none⟩ v1
theorem put2_blk {w : World} {b ty : Nat} {u0 u1 : Value} (h : w.heap[b]? = some (.cells #[u0, u1] ty (0, 0))) (v0 v1 : Value) : (put2 w b v0 v1).heap[b]? = some (.cells #[v0, v1] ty (0, 0)) := blk_put (blk_put h 0 v0 rfl) 1 v1 rfl
theorem put2_keep (w : World) (b : Nat) (v0 v1 : Value) : KeepBut w (put2 w b v0 v1) b none := (((KeepBut.refl w b none).set_ _ v0).set_ _ v1)
theorem put2_below {w0 w : World} {b : Nat} (h : Below w0.heap.size w0 w) (hb : w0.heap.size ≤ b) (v0 v1 : Value) : Below w0.heap.size w0 (put2 w b v0 v1) := (h.setCell hb v0).setCell hb v1
theorem ht94 : ∀ q, q ∈ 94 :: k94.E → q ≠ 28 := by intro q hq; have : q ∈ [94, 104, 9, 160, 161] := hq; simp at this; omega
theorem ckthree_Decode.calls (b : List UInt8) (w : World) (hT : Tabs w) : Calls Tryz.prog 25 #[.string (tx b)] w (DecPost w (decT b)) := by
  obtain ⟨⟨n1, r1, e1⟩, hk1⟩ : ∃ p, p = takeT 8 b 0 := ⟨_, rfl⟩
  obtain ⟨⟨t2, l2⟩, hk2⟩ : ∃ p, p = manyT 2 1024 one5 ⟨r1, e1, false⟩ ([] : List S94) := ⟨_, rfl⟩
  have hD : decT b = if t2.f then (0, [], 18) else if endT t2.r t2.e ≠ 0 then (0, [], endT t2.r t2.e) else if stateP l2 ≠ 0 then (0, [], stateP l2) else (n1, l2, 0) := by
    unfold decT
    simp only [← hk1, ← hk2]
  have hS : ∃ i, i ≤ 1024 ∧ AllN SmP i l2 := by
    have := manyT_all 2 1024 one5 (AllN SmP) (fun t j s hs => pod_small t s j hs) ⟨r1, e1, false⟩ [] ⟨rfl, by simp⟩
    rw [← hk2] at this
    exact this
  obtain ⟨i, hi, hl, hs⟩ := hS
  have hl2 : l2.length ≤ 1024 := by omega
  clear hl hi
  have HT := Aside0.mk hT
  have HS := Aside0.mk hs
  have HD := Aside0.mk hD
  clear hs hD hT
  have cT1 := fun (W : World) (k : TKr 127 [.bool false] (w.heap.size + 1) b 0 W) (kb : Below w.heap.size w W) => Take.calls 8 k kb (by omega) (by decide)
  rw [← hk1] at cT1
  dsimp only at cT1
  have HK2 := Aside0.mk hk2
  clear hk1 hk2
  -- the blocks
  have hB3 := below_alloc (below_alloc (below_alloc (Below.refl w.heap.size w) (.cells #[.int .u64 0, .slice none 0 0] 28)) (.cells #[.string (tx b), .int .i64 0, .bool false] 127)) (.cells #[.pointer (some ⟨w.heap.size + 1, 0, none⟩)] 125)
  have hR3 := blk_alloc (blk_alloc (blk_new w (.cells #[.int .u64 0, .slice none 0 0] 28)) (.cells #[.string (tx b), .int .i64 0, .bool false] 127)) (.cells #[.pointer (some ⟨w.heap.size + 1, 0, none⟩)] 125)
  have hG3 := blk_alloc (blk_new (w.alloc (.cells #[.int .u64 0, .slice none 0 0] 28)) (.cells #[.string (tx b), .int .i64 0, .bool false] 127)) (.cells #[.pointer (some ⟨w.heap.size + 1, 0, none⟩)] 125)
  have hV3 := blk_new ((w.alloc (.cells #[.int .u64 0, .slice none 0 0] 28)).alloc (.cells #[.string (tx b), .int .i64 0, .bool false] 127)) (.cells #[.pointer (some ⟨w.heap.size + 1, 0, none⟩)] 125)
  rw [World_size_alloc2] at hG3
  rw [World_size_alloc2, World_size_alloc2] at hV3
  have HA := Aside0.mk (And.intro hB3 (And.intro hR3 (And.intro hG3 hV3)))
  clear hB3 hR3 hG3 hV3
  go_enter Tryz.func25, Tryz.ntmps25
  go_wp2_with (go_at_call 44; refine (cT1 _ HA.out.2.2.1 HA.out.1).mono ?_; rintro x w4 ⟨rfl, hk⟩; have K4 := Aside0.mk hk; have HV4 := Aside0.mk (hk.keep.blk HA.out.2.2.2 (by omega) (by simp)); have HR4 := Aside0.mk (hk.keep.blk HA.out.2.1 (by omega) (by simp)); clear hk cT1 HA; have HN4 := Aside0.mk (show w.heap.size + 2 < w4.heap.size from blk_lt HV4.out); have H5 := Aside0.mk (show DD (w.heap.size + 1) w4.heap.size (w.heap.size + 1 + 1) w.heap.size w #[.int .u64 (n1 : Int), .slice none 0 0] ⟨r1, e1, false⟩ (w4.alloc (.cells #[.int .u64 (n1 : Int), .slice none 0 0] 28)) from ⟨blk_alloc K4.out.tk _, blk_new _ _, blk_alloc HR4.out _, blk_alloc HV4.out _, below_alloc K4.out.below _, Nat.le_refl _, by omega, by omega, HN4.out⟩); have e5 := H5.out.ptr; clear K4 HV4 HR4)
  generalize w4.alloc (.cells #[.int .u64 (n1 : Int), .slice none 0 0] 28) = w5 at H5 e5 ⊢
  generalize w4.heap.size = sb at H5 ⊢
  have cM := many5 H5.out (by simp) rfl
  rw [← HK2.out] at cM
  dsimp only at cM
  refine cM.mono ?_
  rintro x w6 ⟨rfl, v, h6, hr6⟩
  obtain ⟨A6, c6, rfl⟩ := R_slice hr6
  have H6 := Aside0.mk h6
  have HR6 := Aside0.mk (Kd.R_mono hr6 (fun k hk => Nat.le_trans H5.out.below.size hk))
  have e6 := H6.out.ptr
  have z6 := H6.out.tk.c2
  clear h6 hr6 cM e5 H5 HK2 HN4
  cases hf : t2.f with
  | true =>
    have HF := Aside0.mk (show decT b = (0, [], 18) from by rw [HD.out, if_pos hf])
    rw [hf] at z6
    have hrb := H6.out.rblk; have d0 : w6.cell? ⟨w.heap.size, 0, none⟩ = some (.int .u64 0) := (by rw [blk_cell hrb]; rfl); have d1 : w6.cell? ⟨w.heap.size, 1, none⟩ = some (.slice none 0 0) := (by rw [blk_cell hrb]; rfl); have y0 := blk_frozen hrb 0; have y1 := blk_frozen hrb 1; clear hrb
    go_wp2_with fail
    have hq := put2_blk H6.out.rblk (.int .u64 0) (.slice none 0 0)
    have p0 := (blk_cell hq 0).trans rfl
    have p1 := (blk_cell hq 1).trans rfl
    unfold put2 at p0 p1
    clear hq d0 d1 y0 y1
    refine bodyPost_ret (v := .tuple #[.agg #[.int .u64 0, .slice none 0 0], .int .i64 (18)]) (by simp [results, Tryz.results25, go_sem, p0, p1]) rfl ?_
    clear p0 p1
    rw [HF.out]
    exact ⟨_, rfl, Kd.R_nil k94 94 _ _ _, put2_below H6.out.below (Nat.le_refl _) _ _⟩
  | false =>
    rw [hf] at z6
    have cE := End.calls H6.out.tk
    by_cases he : endT t2.r t2.e = 0
    · have hd2 : decT b = if stateP l2 ≠ 0 then (0, [], stateP l2) else (n1, l2, 0) := by rw [HD.out, if_neg (by rw [hf]; decide), if_neg (by rw [he]; simp)]
      rw [he] at cE
      have hC : ∀ W, Below w6.heap.size w6 W → Calls Tryz.prog 63 #[.agg #[.int .u64 (n1 : Int), .slice A6 l2.length c6]] W fun e w' => e = .returned (.int .i64 (stateP l2)) ∧ Below W.heap.size W w' := by
        intro W hb
        have hr := Kd.R_below HR6.out hb
        obtain ⟨_, hc, hC⟩ := Kd.R_reads' hr
        exact ckthree_Check.calls n1 A6 c6 l2 W (HT.out.below (below_step H6.out.below hb)) hC hc HS.out (by omega)
      have HC := Aside0.mk hC
      clear hC hf he
      by_cases h0 : stateP l2 = 0
      · have HF := Aside0.mk (show decT b = (n1, l2, 0) from by rw [hd2, if_neg (by rw [h0]; simp)])
        replace HC := Aside0.mk (show ∀ W, Below w6.heap.size w6 W → Calls Tryz.prog 63 #[.agg #[.int .u64 (n1 : Int), .slice A6 l2.length c6]] W fun e w' => e = .returned (.int .i64 0) ∧ Below W.heap.size W w' from by have := HC.out; rwa [h0] at this)
        clear hd2 h0
        go_wp2_with (go_at_call 47; refine cE.mono ?_; rintro x w7 ⟨rfl, hb⟩; have H7 := Aside0.mk (H6.out.below' hb); have HR7 := Aside0.mk (Kd.R_below HR6.out hb); have HB7 := Aside0.mk hb; have s0 : w7.cell? ⟨sb, 0, none⟩ = some (.int .u64 (n1 : Int)) := (by rw [blk_cell H7.out.blk]; rfl); have s1 : w7.cell? ⟨sb, 1, none⟩ = some (.slice A6 l2.length c6) := (by rw [blk_cell H7.out.blk]; rfl); clear hb cE e6 z6 H6 HR6)
        go_wp2_with (go_at_call 63; refine (HC.out _ HB7.out).mono ?_; rintro x w8 ⟨rfl, hb⟩; have H8 := Aside0.mk (H7.out.below' hb); have HR8 := Aside0.mk (Kd.R_below HR7.out hb); have s3 : w8.cell? ⟨sb, 0, none⟩ = some (.int .u64 (n1 : Int)) := (by rw [blk_cell H8.out.blk]; rfl); have s4 : w8.cell? ⟨sb, 1, none⟩ = some (.slice A6 l2.length c6) := (by rw [blk_cell H8.out.blk]; rfl); clear hb s0 s1 H7 HR7 HB7 HC; have hrb := H8.out.rblk; have d0 : w8.cell? ⟨w.heap.size, 0, none⟩ = some (.int .u64 0) := (by rw [blk_cell hrb]; rfl); have d1 : w8.cell? ⟨w.heap.size, 1, none⟩ = some (.slice none 0 0) := (by rw [blk_cell hrb]; rfl); have y0 := blk_frozen hrb 0; have y1 := blk_frozen hrb 1; clear hrb)
        clear s3 s4
        have hq := put2_blk H8.out.rblk (.int .u64 (n1 : Int)) (.slice A6 l2.length c6)
        have p0 := (blk_cell hq 0).trans rfl
        have p1 := (blk_cell hq 1).trans rfl
        unfold put2 at p0 p1
        clear hq d0 d1 y0 y1
        refine bodyPost_ret (v := .tuple #[.agg #[.int .u64 (n1 : Int), .slice A6 l2.length c6], .int .i64 (0)]) (by simp [results, Tryz.results25, go_sem, p0, p1]) rfl ?_
        clear p0 p1
        rw [HF.out]
        have hr := Kd.R_keep (Kd.R_types HR8.out H8.out.rblk ht94) (put2_keep w8 w.heap.size (.int .u64 (n1 : Int)) (.slice A6 l2.length c6)) (fun k hk => hk.2)
        exact ⟨_, rfl, Kd.R_mono hr (fun k hk => hk.1), put2_below H8.out.below (Nat.le_refl _) _ _⟩
      · have HF := Aside0.mk (show decT b = (0, [], stateP l2) from by rw [hd2, if_pos h0])
        have hz0 : (stateP l2 == 0) = false := beq_eq_false_iff_ne.2 h0
        have hz1 : (stateP l2 != 0) = true := bne_iff_ne.2 h0
        generalize stateP l2 = s at HC HF hz0 hz1
        clear hd2 h0
        go_wp2_with (go_at_call 47; refine cE.mono ?_; rintro x w7 ⟨rfl, hb⟩; have H7 := Aside0.mk (H6.out.below' hb); have HB7 := Aside0.mk hb; have s0 : w7.cell? ⟨sb, 0, none⟩ = some (.int .u64 (n1 : Int)) := (by rw [blk_cell H7.out.blk]; rfl); have s1 : w7.cell? ⟨sb, 1, none⟩ = some (.slice A6 l2.length c6) := (by rw [blk_cell H7.out.blk]; rfl); clear hb cE e6 z6 H6 HR6)
        go_wp2_with (go_at_call 63; refine (HC.out _ HB7.out).mono ?_; rintro x w8 ⟨rfl, hb⟩; have H8 := Aside0.mk (H7.out.below' hb); clear hb s0 s1 H7 HB7 HC; have hrb := H8.out.rblk; have d0 : w8.cell? ⟨w.heap.size, 0, none⟩ = some (.int .u64 0) := (by rw [blk_cell hrb]; rfl); have d1 : w8.cell? ⟨w.heap.size, 1, none⟩ = some (.slice none 0 0) := (by rw [blk_cell hrb]; rfl); have y0 := blk_frozen hrb 0; have y1 := blk_frozen hrb 1; clear hrb)
        have hq := put2_blk H8.out.rblk (.int .u64 0) (.slice none 0 0)
        have p0 := (blk_cell hq 0).trans rfl
        have p1 := (blk_cell hq 1).trans rfl
        unfold put2 at p0 p1
        clear hq d0 d1 y0 y1
        refine bodyPost_ret (v := .tuple #[.agg #[.int .u64 0, .slice none 0 0], .int .i64 (s)]) (by simp [results, Tryz.results25, go_sem, p0, p1]) rfl ?_
        clear p0 p1
        rw [HF.out]
        exact ⟨_, rfl, Kd.R_nil k94 94 _ _ _, put2_below H8.out.below (Nat.le_refl _) _ _⟩
    · have HF := Aside0.mk (show decT b = (0, [], endT t2.r t2.e) from by rw [HD.out, if_neg (by rw [hf]; decide), if_pos he])
      have hz0 : (endT t2.r t2.e == 0) = false := beq_eq_false_iff_ne.2 he
      have hz1 : (endT t2.r t2.e != 0) = true := bne_iff_ne.2 he
      generalize endT t2.r t2.e = s at cE HF hz0 hz1
      clear he hf
      go_wp2_with (go_at_call 47; refine cE.mono ?_; rintro x w7 ⟨rfl, hb⟩; have H7 := Aside0.mk (H6.out.below' hb); clear hb cE e6 z6 H6 HR6; have hrb := H7.out.rblk; have d0 : w7.cell? ⟨w.heap.size, 0, none⟩ = some (.int .u64 0) := (by rw [blk_cell hrb]; rfl); have d1 : w7.cell? ⟨w.heap.size, 1, none⟩ = some (.slice none 0 0) := (by rw [blk_cell hrb]; rfl); have y0 := blk_frozen hrb 0; have y1 := blk_frozen hrb 1; clear hrb)
      have hq := put2_blk H7.out.rblk (.int .u64 0) (.slice none 0 0)
      have p0 := (blk_cell hq 0).trans rfl
      have p1 := (blk_cell hq 1).trans rfl
      unfold put2 at p0 p1
      clear hq d0 d1 y0 y1
      refine bodyPost_ret (v := .tuple #[.agg #[.int .u64 0, .slice none 0 0], .int .i64 (s)]) (by simp [results, Tryz.results25, go_sem, p0, p1]) rfl ?_
      clear p0 p1
      rw [HF.out]
      exact ⟨_, rfl, Kd.R_nil k94 94 _ _ _, put2_below H7.out.below (Nat.le_refl _) _ _⟩
end Go.Proofs.YtlmeelmjodjfpaaGreatDoor.PB
end
