/- CkptBursts, part 15 of 24 of its proof: for every input that meets the row's condition (laid, tied) the call returns true and each argument reads behind it as before. -/
import Derived.Test.YtlmeelmjodjfpaaGreatDoorG13
section
namespace Go.Proofs.YtlmeelmjodjfpaaGreatDoor.PB
open Go.RowKit Go.Proofs.YtlmeelmjodjfpaaGreatDoorW.PrintWords Go.Proofs.YtlmeelmjodjfpaaGreatDoorW.PrintLast Go.Proofs.YtlmeelmjodjfpaaGreatDoorW.PrintMore
open Fr (tx tx_list tx_size tx_app)
open Go.Proofs.YtlmeelmjodjfpaaGreatDoor.Op (num numF)
set_option linter.unusedVariables false
set_option linter.unusedSimpArgs false
theorem World_size_alloc2 (w : World) (o : Obj) : (w.alloc o).heap.size = w.heap.size + 1 := by simp
def Z104 : Array Value := #[.string ⟨#[]⟩, .string ⟨#[]⟩, .slice none 0 0, .slice none 0 0, .int .i64 0, .int .i64 0, .slice none 0 0]
/-- What stands while a container is taken. -/
structure CD (g cb tb rb : Nat) (w0 wS : World) (cs : Array Value) (t : St) (w : World) : Prop where
  tk : TK3 g t w
  blk : w.heap[cb]? = some (.cells cs 104 (0, 0))
  rblk : w.heap[rb]? = some (.cells Z104 104 (0, 0))
  tp : w.heap[tb]? = some (.cells #[.pointer (some ⟨g, 0, none⟩)] 125 (0, 0))
  below : Below w0.heap.size w0 w
  keep : KeepBut wS w g none
  gS : g < wS.heap.size
  cS : wS.heap.size ≤ cb
  tS : wS.heap.size ≤ tb
  rS : wS.heap.size ≤ rb
  tc : tb ≠ cb
  rc : rb ≠ cb
  hg : w0.heap.size ≤ g
  hS : w0.heap.size ≤ wS.heap.size
theorem CD.ce {g cb tb rb : Nat} {w0 wS : World} {cs : Array Value} {t : St} {w : World} (h : CD g cb tb rb w0 wS cs t w) : CE g cb tb w0 w := by
  obtain ⟨h1, h2, h3, h4, h5, h6, h7, h8, h9, h10, h11, h12, h13, h14⟩ := h
  have := h6.1
  exact ⟨by omega, by omega, h11, by omega, blk_lt h2, h13, by omega, by omega, h4⟩
theorem CD.ptr {g cb tb rb : Nat} {w0 wS : World} {cs : Array Value} {t : St} {w : World} (h : CD g cb tb rb w0 wS cs t w) : w.cell? ⟨tb, 0, none⟩ = some (.pointer (some ⟨g, 0, none⟩)) := by rw [blk_cell h.tp]; rfl
theorem CD.start {α : Type} (d : Kd α) (e f : Nat) {g cb tb rb : Nat} {w0 wS : World} {cs : Array Value} {t : St} {w : World} (h : CD g cb tb rb w0 wS cs t w) (hz : cs.setIfInBounds f (.slice none 0 0) = cs) : ManyI (C1I d e f 104 g cb w0 w cs) g w0 0 t [] w :=
  ⟨h.tk, ⟨rfl, .slice none 0 0, by rw [hz]; exact h.blk, Kd.R_nil d e w _ _, Mod2.refl _ _ _⟩, h.below⟩
theorem CD.keeps {g cb tb rb : Nat} {w0 wS : World} {cs : Array Value} {t : St} {w w2 : World} (h : CD g cb tb rb w0 wS cs t w) (m : Mod2 g cb w w2) {cs2 : Array Value} {t2 : St} (hk : TK3 g t2 w2) (hb : w2.heap[cb]? = some (.cells cs2 104 (0, 0))) (hB : Below w0.heap.size w0 w2) : CD g cb tb rb w0 wS cs2 t2 w2 := by
  obtain ⟨h1, h2, h3, h4, h5, h6, h7, h8, h9, h10, h11, h12, h13, h14⟩ := h
  exact ⟨hk, hb, (m.2 rb (blk_lt h3) (by omega) h12).trans h3, (m.2 tb (blk_lt h4) (by omega) h11).trans h4, hB,
    ⟨Nat.le_trans h6.1 m.1, fun k hk2 hk3 _ => (m.2 k (Nat.lt_of_lt_of_le hk2 h6.1) hk3 (by omega)).trans (h6.2 k hk2 hk3 (by simp))⟩, h7, h8, h9, h10, h11, h12, h13, h14⟩
/-- Behind many. -/
theorem CD.after {α : Type} {d : Kd α} {e f : Nat} {g cb tb rb : Nat} {w0 wS : World} {cs : Array Value} {t t2 : St} {w w2 : World} {j : Nat} {l : List α} (h : CD g cb tb rb w0 wS cs t w) (m : ManyI (C1I d e f 104 g cb w0 w cs) g w0 j t2 l w2) :
    ∃ v, CD g cb tb rb w0 wS (cs.setIfInBounds f v) t2 w2 ∧ d.R e w2 w0.heap.size (fun k => wS.heap.size ≤ k ∧ k ≠ cb) v l ∧ Mod2 g cb w w2 := by
  obtain ⟨hk, ⟨_, v, hb, hr, hm⟩, hB⟩ := m
  refine ⟨v, h.keeps hm hk hb hB, Kd.R_mono hr (fun k hk2 => ?_), hm⟩
  have h1 := h.keep.1
  have h2 := blk_lt h.blk
  exact ⟨by omega, by omega⟩
/-- A row of its own that stands while another grows. -/
theorem CD.row {α : Type} {d : Kd α} {e : Nat} {g cb tb rb : Nat} {w0 wS : World} {cs : Array Value} {t : St} {w w2 : World} {v : Value} {l : List α} (h : CD g cb tb rb w0 wS cs t w) (m : Mod2 g cb w w2) (hr : d.R e w w0.heap.size (fun k => wS.heap.size ≤ k ∧ k ≠ cb) v l) : d.R e w2 w0.heap.size (fun k => wS.heap.size ≤ k ∧ k ≠ cb) v l :=
  Kd.R_step hr (fun k hk hlt => m.2 k hlt (by have := h.gS; omega) hk.2)
/-- What container takes, and what it leaves. -/
def contT (t : St) : S104 × St :=
  let a := textT t.r t.e
  let b := textT a.2.1 a.2.2
  let m1 := manyT 1 16 one1 ⟨b.2.1, b.2.2, t.f⟩ ([] : List ByteArray)
  let m2 := manyT 1 16 one2 m1.1 ([] : List S160)
  if m2.1.bad then (⟨tx a.1, tx b.1, m1.2, m2.2, 0, 0, []⟩, m2.1) else
    let p := takeT 4 m2.1.r m2.1.e
    let q := takeT 4 p.2.1 p.2.2
    let m3 := manyT 1 16 one3 ⟨q.2.1, q.2.2, m2.1.f⟩ ([] : List S161)
    (⟨tx a.1, tx b.1, m1.2, m2.2, (p.1 : Int), (q.1 : Int), m3.2⟩, m3.1)
theorem takeT_lt4 (r : List UInt8) (e : Int) : (takeT 4 r e).1 < 4294967296 := by
  unfold takeT
  split
  · show (0 : Nat) < 4294967296; decide
  · split
    · show (0 : Nat) < 4294967296; decide
    · have hh := Go.Proofs.YtlmeelmjodjfpaaGreatDoor.Op.num_lt (r.take 4)
      have hl : (r.take 4).length ≤ 4 := by rw [List.length_take]; omega
      exact Nat.lt_of_lt_of_le hh (Nat.le_trans (Nat.pow_le_pow_right (by decide) hl) (by decide))
theorem CD.two {g cb tb rb : Nat} {w0 wS : World} {c0 c1 c2 c3 c4 c5 c6 : Value} {t t2 : St} {w w2 : World} (h : CD g cb tb rb w0 wS #[c0, c1, c2, c3, c4, c5, c6] t w) (hb : Below w0.heap.size w0 w2) (hk : KeepBut w w2 g none) (ht : TK3 g t2 w2) (u v : Value) :
    CD g cb tb rb w0 wS #[c0, c1, c2, c3, u, v, c6] t2 ((w2.setCell ⟨cb, 4, none⟩ u).setCell ⟨cb, 5, none⟩ v) := by
  have E := h.ce
  have hc : w2.heap[cb]? = _ := hk.blk h.blk E.cg (by simp)
  refine h.keeps (((Mod2.refl g cb w).keep hk |>.set 4 u).set 5 v) ?_ (blk_put (blk_put hc 4 u rfl) 5 v rfl) ((hb.setCell E.hc _).setCell E.hc _)
  exact blk_far (blk_far ht (Ne.symm E.cg) _) (Ne.symm E.cg) _
theorem enters98 : ∀ (a : Array Value) (W : World), (callFunc 98 a).run Tryz.prog W = .ok (.enter 98 a) W := enters_of Tryz.func98 (by kernel_rfl) rfl
theorem enters99 : ∀ (a : Array Value) (W : World), (callFunc 99 a).run Tryz.prog W = .ok (.enter 99 a) W := enters_of Tryz.func99 (by kernel_rfl) rfl
theorem enters100 : ∀ (a : Array Value) (W : World), (callFunc 100 a).run Tryz.prog W = .ok (.enter 100 a) W := enters_of Tryz.func100 (by kernel_rfl) rfl
set_option maxHeartbeats 1000000
set_option maxRecDepth 100000
/-- The three calls of many. -/
theorem many1 {g cb tb rb : Nat} {w0 wS : World} {cs : Array Value} {t : St} {w : World} (h : CD g cb tb rb w0 wS cs t w) (hc : 2 < cs.size) (hz : cs.setIfInBounds 2 (.slice none 0 0) = cs) :
    Calls Tryz.prog 58 #[.pointer (some ⟨g, 0, none⟩), .int .i64 1, .int .i64 16, .func (.func 98) #[] #[.pointer (some ⟨cb, 0, none⟩), .pointer (some ⟨tb, 0, none⟩)]] w fun x w2 => x = .returned (.tuple #[]) ∧
      ∃ v, CD g cb tb rb w0 wS (cs.setIfInBounds 2 v) (manyT 1 16 one1 t []).1 w2 ∧ Kd.string.R 9 w2 w0.heap.size (fun k => wS.heap.size ≤ k ∧ k ≠ cb) v (manyT 1 16 one1 t []).2 ∧ Mod2 g cb w w2 := by
  refine (many.calls 1 16 (by decide) (by decide) 98 enters98 _ (C1I Kd.string 9 2 104 g cb w0 w cs) one1 (C1I.keep h.ce) h.hg (fun j r l w1 hj hI => clos1.calls h.ce hc j r l w1 hj hI) t [] (h.start Kd.string 9 2 hz)).mono ?_
  rintro x w2 ⟨rfl, j, _, hM⟩
  exact ⟨rfl, h.after hM⟩
theorem many2 {g cb tb rb : Nat} {w0 wS : World} {cs : Array Value} {t : St} {w : World} (h : CD g cb tb rb w0 wS cs t w) (hc : 3 < cs.size) (hz : cs.setIfInBounds 3 (.slice none 0 0) = cs) :
    Calls Tryz.prog 58 #[.pointer (some ⟨g, 0, none⟩), .int .i64 1, .int .i64 16, .func (.func 99) #[] #[.pointer (some ⟨cb, 0, none⟩), .pointer (some ⟨tb, 0, none⟩)]] w fun x w2 => x = .returned (.tuple #[]) ∧
      ∃ v, CD g cb tb rb w0 wS (cs.setIfInBounds 3 v) (manyT 1 16 one2 t []).1 w2 ∧ k160.R 160 w2 w0.heap.size (fun k => wS.heap.size ≤ k ∧ k ≠ cb) v (manyT 1 16 one2 t []).2 ∧ Mod2 g cb w w2 := by
  refine (many.calls 1 16 (by decide) (by decide) 99 enters99 _ (C1I k160 160 3 104 g cb w0 w cs) one2 (C1I.keep h.ce) h.hg (fun j r l w1 hj hI => clos2.calls h.ce hc j r l w1 hj hI) t [] (h.start k160 160 3 hz)).mono ?_
  rintro x w2 ⟨rfl, j, _, hM⟩
  exact ⟨rfl, h.after hM⟩
theorem many3 {g cb tb rb : Nat} {w0 wS : World} {cs : Array Value} {t : St} {w : World} (h : CD g cb tb rb w0 wS cs t w) (hc : 6 < cs.size) (hz : cs.setIfInBounds 6 (.slice none 0 0) = cs) :
    Calls Tryz.prog 58 #[.pointer (some ⟨g, 0, none⟩), .int .i64 1, .int .i64 16, .func (.func 100) #[] #[.pointer (some ⟨cb, 0, none⟩), .pointer (some ⟨tb, 0, none⟩)]] w fun x w2 => x = .returned (.tuple #[]) ∧
      ∃ v, CD g cb tb rb w0 wS (cs.setIfInBounds 6 v) (manyT 1 16 one3 t []).1 w2 ∧ k161.R 161 w2 w0.heap.size (fun k => wS.heap.size ≤ k ∧ k ≠ cb) v (manyT 1 16 one3 t []).2 ∧ Mod2 g cb w w2 := by
  refine (many.calls 1 16 (by decide) (by decide) 100 enters100 _ (C1I k161 161 6 104 g cb w0 w cs) one3 (C1I.keep h.ce) h.hg (fun j r l w1 hj hI => clos3.calls h.ce hc j r l w1 hj hI) t [] (h.start k161 161 6 hz)).mono ?_
  rintro x w2 ⟨rfl, j, _, hM⟩
  exact ⟨rfl, h.after hM⟩
theorem alloc_out {W : World} {cs : Array Value} {ty : TypeId} {N : Nat} {d : Option Tmp} {a : Act} {Kc : Act → World → Prop} (hN : W.heap.size = N)
    (h : ∀ gb w2, w2.heap[gb]? = some (.cells cs ty (0, 0)) → Below W.heap.size W w2 → W.heap.size ≤ gb → Kc (a.put d (.pointer (some ⟨gb, 0, none⟩))) w2) : Kc (a.put d (.pointer (some ⟨N, 0, none⟩))) (W.alloc (.cells cs ty)) := by
  subst hN
  exact h _ _ (blk_new W _) (below_alloc (Below.refl _ _) _) (Nat.le_refl _)
theorem alloc_out_drew {W : World} {cs : Array Value} {ty : TypeId} {N : Nat} {d : Option Tmp} {a : Act} {Kc : Act → World → Prop} (hN : W.heap.size = N)
    (h : ∀ gb w2, w2.heap[gb]? = some (.cells cs ty (0, 0)) → Below W.drew.heap.size W.drew w2 → W.drew.heap.size ≤ gb → Kc (a.put d (.pointer (some ⟨gb, 0, none⟩))) w2) : Kc (a.put d (.pointer (some ⟨N, 0, none⟩))) (W.alloc (.cells cs ty)).drew :=
  alloc_out (W := W.drew) hN h
def put7 (w : World) (b : Nat) (v0 v1 v2 v3 v4 v5 v6 : Value) : World := ((((((w.setCell ⟨b, 0, none⟩ v0).setCell ⟨b, 1, none⟩ v1).setCell ⟨b, 2, none⟩ v2).setCell ⟨b, 3, none⟩ v3).setCell ⟨b, 4, none⟩ v4).setCell ⟨b, 5, none⟩ v5).setCell ⟨b, 6, none⟩ v6
theorem put7_blk {w : World} {b ty : Nat} {u0 u1 u2 u3 u4 u5 u6 : Value} (h : w.heap[b]? = some (.cells #[u0, u1, u2, u3, u4, u5, u6] ty (0, 0))) (v0 v1 v2 v3 v4 v5 v6 : Value) : (put7 w b v0 v1 v2 v3 v4 v5 v6).heap[b]? = some (.cells #[v0, v1, v2, v3, v4, v5, v6] ty (0, 0)) :=
  blk_put (blk_put (blk_put (blk_put (blk_put (blk_put (blk_put h 0 v0 rfl) 1 v1 rfl) 2 v2 rfl) 3 v3 rfl) 4 v4 rfl) 5 v5 rfl) 6 v6 rfl
theorem put7_keep (w : World) (b : Nat) (v0 v1 v2 v3 v4 v5 v6 : Value) : KeepBut w (put7 w b v0 v1 v2 v3 v4 v5 v6) b none :=
  ((((((((KeepBut.refl w b none).set_ 0 v0).set_ 1 v1).set_ 2 v2).set_ 3 v3).set_ 4 v4).set_ 5 v5).set_ 6 v6)
theorem put7_below {w0 w : World} {b : Nat} (h : Below w0.heap.size w0 w) (hb : w0.heap.size ≤ b) (v0 v1 v2 v3 v4 v5 v6 : Value) : Below w0.heap.size w0 (put7 w b v0 v1 v2 v3 v4 v5 v6) :=
  ((((((h.setCell hb v0).setCell hb v1).setCell hb v2).setCell hb v3).setCell hb v4).setCell hb v5).setCell hb v6
theorem R_slice {α : Type} {d : Kd α} {e : Nat} {w : World} {base : Nat} {ok : Nat → Prop} {v : Value} {xs : List α} (h : d.R e w base ok v xs) : ∃ A c, v = .slice A xs.length c := by
  obtain ⟨_, inner, ho, _⟩ := h
  rcases ho.2 with ⟨rfl, h0⟩ | ⟨g, cap, cur, rfl, _⟩
  · exact ⟨none, 0, by rw [h0]⟩
  · exact ⟨_, cap, rfl⟩
theorem k104_own {w : World} {base : Nat} {ok : Nat → Prop} {f0 f1 : ByteArray} {l2 : List ByteArray} {l3 : List S160} {f4 f5 : Int} {l6 : List S161} {v2 v3 v6 : Value} (h2 : Kd.string.R 9 w base ok v2 l2) (h3 : k160.R 160 w base ok v3 l3) (h6 : k161.R 161 w base ok v6 l6) :
    k104.M w base ok ⟨f0, f1, l2, l3, f4, f5, l6⟩ [.string f0, .string f1, v2, v3, .int .i64 f4, .int .i64 f5, v6] :=
  ⟨_, _, rfl, rfl, ⟨_, _, rfl, rfl, ⟨_, _, rfl, ⟨v2, rfl, h2⟩, ⟨_, _, rfl, ⟨v3, rfl, h3⟩, ⟨_, _, rfl, rfl, ⟨_, _, rfl, rfl, ⟨v6, rfl, h6⟩⟩⟩⟩⟩⟩⟩
theorem ht9 : ∀ q, q ∈ 9 :: Kd.string.E → q ≠ 104 := by intro q hq; have : q ∈ [9] := hq; simp at this; omega
theorem ht160 : ∀ q, q ∈ 160 :: k160.E → q ≠ 104 := by intro q hq; have : q ∈ [160] := hq; simp at this; omega
theorem ht161 : ∀ q, q ∈ 161 :: k161.E → q ≠ 104 := by intro q hq; have : q ∈ [161] := hq; simp at this; omega
/-- The end: the container stands in its result. -/
theorem CD.leave {g cb tb rb : Nat} {w0 wS : World} {cs : Array Value} {t : St} {w : World} (h : CD g cb tb rb w0 wS cs t w) {f0 f1 : ByteArray} {l2 : List ByteArray} {l3 : List S160} {f4 f5 : Int} {l6 : List S161} {v2 v3 v6 : Value}
    (h2 : Kd.string.R 9 w w0.heap.size (fun k => wS.heap.size ≤ k ∧ k ≠ cb) v2 l2) (h3 : k160.R 160 w w0.heap.size (fun k => wS.heap.size ≤ k ∧ k ≠ cb) v3 l3) (h6 : k161.R 161 w w0.heap.size (fun k => wS.heap.size ≤ k ∧ k ≠ cb) v6 l6) :
    k104.M (put7 w rb (.string f0) (.string f1) v2 v3 (.int .i64 f4) (.int .i64 f5) v6) w0.heap.size (fun k => wS.heap.size ≤ k) ⟨f0, f1, l2, l3, f4, f5, l6⟩ [.string f0, .string f1, v2, v3, .int .i64 f4, .int .i64 f5, v6] ∧
      TK3 g t (put7 w rb (.string f0) (.string f1) v2 v3 (.int .i64 f4) (.int .i64 f5) v6) ∧ Below w0.heap.size w0 (put7 w rb (.string f0) (.string f1) v2 v3 (.int .i64 f4) (.int .i64 f5) v6) ∧ KeepBut wS (put7 w rb (.string f0) (.string f1) v2 v3 (.int .i64 f4) (.int .i64 f5) v6) g none := by
  have hk := put7_keep w rb (.string f0) (.string f1) v2 v3 (.int .i64 f4) (.int .i64 f5) v6
  have hrb := h.rblk
  have e1 := h.gS
  have e2 := h.rS
  have e3 := h.hg
  have e4 := h.hS
  unfold Z104 at hrb
  refine ⟨k104_own ?_ ?_ ?_, hk.blk h.tk (by omega) (by simp), put7_below h.below (by omega) _ _ _ _ _ _ _, ⟨Nat.le_trans h.keep.1 hk.1, fun k hk1 hk2 _ => (hk.2 k (Nat.lt_of_lt_of_le hk1 h.keep.1) (by omega) (by simp)).trans (h.keep.2 k hk1 hk2 (by simp))⟩⟩
  · exact Kd.R_mono (Kd.R_keep (Kd.R_types h2 hrb ht9) hk (fun k hk => hk.2)) (fun k hk => hk.1.1)
  · exact Kd.R_mono (Kd.R_keep (Kd.R_types h3 hrb ht160) hk (fun k hk => hk.2)) (fun k hk => hk.1.1)
  · exact Kd.R_mono (Kd.R_keep (Kd.R_types h6 hrb ht161) hk (fun k hk => hk.2)) (fun k hk => hk.1.1)
/-- What container comes to. -/
def ContPost (g : Nat) (w0 w : World) (c : S104) (t : St) (x : Ending) (w' : World) : Prop :=
  ∃ cs, x = .returned (.agg cs.toArray) ∧ k104.M w' w0.heap.size (fun k => w.heap.size ≤ k) c cs ∧ TK3 g t w' ∧ Below w0.heap.size w0 w' ∧ KeepBut w w' g none
theorem container.calls {g : Nat} {t : St} {w0 w : World} (h : TK3 g t w) (hb : Below w0.heap.size w0 w) (hg : w0.heap.size ≤ g) :
    Calls Tryz.prog 62 #[.pointer (some ⟨g, 0, none⟩)] w (ContPost g w0 w (contT t).1 (contT t).2) := by
  obtain ⟨⟨x1, r1, e1⟩, hk1⟩ : ∃ p, p = textT t.r t.e := ⟨_, rfl⟩
  obtain ⟨⟨x2, r2, e2⟩, hk2⟩ : ∃ p, p = textT r1 e1 := ⟨_, rfl⟩
  have HB1 := Aside0.mk (below_alloc (below_alloc hb (.cells #[.pointer (some ⟨g, 0, none⟩)] 125)) (.cells #[.string ⟨#[]⟩, .string ⟨#[]⟩, .slice none 0 0, .slice none 0 0, .int .i64 0, .int .i64 0, .slice none 0 0] 104))
  have HT1 := Aside0.mk (blk_alloc (blk_new w (.cells #[.pointer (some ⟨g, 0, none⟩)] 125)) (.cells #[.string ⟨#[]⟩, .string ⟨#[]⟩, .slice none 0 0, .slice none 0 0, .int .i64 0, .int .i64 0, .slice none 0 0] 104))
  have hR1 := blk_new (w.alloc (.cells #[.pointer (some ⟨g, 0, none⟩)] 125)) (.cells #[.string ⟨#[]⟩, .string ⟨#[]⟩, .slice none 0 0, .slice none 0 0, .int .i64 0, .int .i64 0, .slice none 0 0] 104)
  rw [World_size_alloc2] at hR1
  have HR1 := Aside0.mk hR1
  have HK1 := Aside0.mk (KeepBut.of_below (below_alloc (below_alloc (Below.refl w.heap.size w) (.cells #[.pointer (some ⟨g, 0, none⟩)] 125)) (.cells #[.string ⟨#[]⟩, .string ⟨#[]⟩, .slice none 0 0, .slice none 0 0, .int .i64 0, .int .i64 0, .slice none 0 0] 104)) g none)
  have HTK := Aside0.mk (show TKr 127 [.bool t.f] g t.r t.e ((w.alloc (.cells #[.pointer (some ⟨g, 0, none⟩)] 125)).alloc (.cells #[.string ⟨#[]⟩, .string ⟨#[]⟩, .slice none 0 0, .slice none 0 0, .int .i64 0, .int .i64 0, .slice none 0 0] 104)) from blk_alloc (blk_alloc h _) _)
  have HG := Aside0.mk (And.intro hb (And.intro hg (blk_lt h)))
  have HTKd := Aside0.mk (show TKr 127 [.bool t.f] g t.r t.e ((w.alloc (.cells #[.pointer (some ⟨g, 0, none⟩)] 125)).alloc (.cells #[.string ⟨#[]⟩, .string ⟨#[]⟩, .slice none 0 0, .slice none 0 0, .int .i64 0, .int .i64 0, .slice none 0 0] 104)).drew from HTK.out)
  clear hR1 hb h
  have cT1 := fun (W : World) (k : TKr 127 [.bool t.f] g t.r t.e W) (kb : Below w0.heap.size w0 W) => Text.calls k kb HG.out.2.1
  rw [← hk1] at cT1
  have cT2 := fun (W W2 : World) (k : TKs 127 [.bool t.f] g r1 e1 w0 W W2) => Text.calls k.tk k.below HG.out.2.1
  rw [← hk2] at cT2
  dsimp only at cT1 cT2
  have HKK := Aside0.mk (And.intro hk1 hk2)
  clear hk1 hk2 hg
  go_enter Tryz.func62, Tryz.ntmps62
  go_wp2_with fail
  refine start_ (n := 11) (S := fun w' => w'.heap[w.heap.size]? = some (.cells #[.pointer (some ⟨g, 0, none⟩)] 125 (0, 0)) ∧ w'.cell? ⟨w.heap.size, 0, none⟩ = some (.pointer (some ⟨g, 0, none⟩)) ∧ w'.heap[w.heap.size + 1]? = some (.cells #[.string ⟨#[]⟩, .string ⟨#[]⟩, .slice none 0 0, .slice none 0 0, .int .i64 0, .int .i64 0, .slice none 0 0] 104 (0, 0)) ∧ Below w0.heap.size w0 w' ∧ KeepBut w w' g none) (ds := [10]) #[false, false, false, false, false, false, false, false, false, false, false] (by kernel_rfl) rfl rfl ⟨(show ((w.alloc _).alloc _).drew.heap[w.heap.size]? = _ from HT1.out), ((blk_cell (show ((w.alloc _).alloc _).drew.heap[w.heap.size]? = _ from HT1.out) 0).trans rfl), (show ((w.alloc _).alloc _).drew.heap[w.heap.size + 1]? = _ from HR1.out), (below_drew1 HB1.out), (HK1.out.trans (KeepBut.of_below (below_drew1 (Below.refl _ _)) g none) (.inl rfl))⟩ (fun hHeld => ?_)
  refine take_ (i := 0) (N := some 4) (v := ?_) (a' := ?_) #[true, false, false, false, false, false, false, false, false, false, false] rfl rfl (by kernel_rfl) (fun _ _ _ h => h) (Or.inl ⟨by rfl, ?_⟩) hHeld ?_ ?_
  rotate_left
  · rintro w' ⟨s0, s1, s2, s3, s4⟩
    go_simp
    with_reducible rfl
  rotate_left
  · simp only [Act.put, List.setIfInBounds_toArray, List.set_cons_zero, List.set_cons_succ, i64_w, i32_w]
    rfl
  refine pure_ (i := 1) (N := some 5) (v := ?_) (a' := ?_) #[true, true, false, false, false, false, false, false, false, false, false] rfl rfl (by kernel_rfl) (fun _ _ _ h => h) (Or.inl ⟨by rfl, ?_⟩) ?_ ?_
  rotate_left
  · intro w'
    go_simp
    with_reducible rfl
  rotate_left
  · simp only [Act.put, List.setIfInBounds_toArray, List.set_cons_zero, List.set_cons_succ, i64_w, i32_w]
    rfl
  refine pure_ (i := 2) (N := some 6) (v := ?_) (a' := ?_) #[true, true, true, false, false, false, false, false, false, false, false] rfl rfl (by kernel_rfl) (fun _ _ _ h => h) (Or.inl ⟨by rfl, ?_⟩) ?_ ?_
  rotate_left
  · intro w'
    go_simp
    with_reducible rfl
  rotate_left
  · simp only [Act.put, List.setIfInBounds_toArray, List.set_cons_zero, List.set_cons_succ, i64_w, i32_w]
    rfl
  refine take_ (i := 4) (N := some 8) (v := ?_) (a' := ?_) #[true, true, true, false, true, false, false, false, false, false, false] rfl rfl (by kernel_rfl) (fun _ _ _ h => h) (Or.inl ⟨by rfl, ?_⟩) hHeld ?_ ?_
  rotate_left
  · rintro w' ⟨s0, s1, s2, s3, s4⟩
    go_simp
    with_reducible rfl
  rotate_left
  · simp only [Act.put, List.setIfInBounds_toArray, List.set_cons_zero, List.set_cons_succ, i64_w, i32_w]
    rfl
  refine pure_ (i := 5) (N := some 9) (v := ?_) (a' := ?_) #[true, true, true, false, true, true, false, false, false, false, false] rfl rfl (by kernel_rfl) (fun _ _ _ h => h) (Or.inl ⟨by rfl, ?_⟩) ?_ ?_
  rotate_left
  · intro w'
    go_simp
    with_reducible rfl
  rotate_left
  · simp only [Act.put, List.setIfInBounds_toArray, List.set_cons_zero, List.set_cons_succ, i64_w, i32_w]
    rfl
  refine pure_ (i := 6) (N := some 10) (v := ?_) (a' := ?_) #[true, true, true, false, true, true, true, false, false, false, false] rfl rfl (by kernel_rfl) (fun _ _ _ h => h) (Or.inl ⟨by rfl, ?_⟩) ?_ ?_
  rotate_left
  · intro w'
    go_simp
    with_reducible rfl
  rotate_left
  · simp only [Act.put, List.setIfInBounds_toArray, List.set_cons_zero, List.set_cons_succ, i64_w, i32_w]
    rfl
  refine join_ (σ := Nat) 1 #[true, true, true, true, true, true, true, true, true, true, false] (fun x => [(3, .pointer (some ⟨x, 0, none⟩)), (4, .pointer (some ⟨g, 0, none⟩)), (5, .pointer (some ⟨g, 0, none⟩)), (6, .pointer (some ⟨g, 0, none⟩)), (7, .string (tx x1)), (8, .pointer (some ⟨g, 0, none⟩)), (9, .pointer (some ⟨g, 0, none⟩)), (10, .pointer (some ⟨g, 0, none⟩)), (11, .string (tx x2)), (12, .agg #[.string (tx x1), .string (tx x2), .slice none 0 0, .slice none 0 0, .int .i64 0, .int .i64 0, .slice none 0 0])]) (fun x w' => (w'.heap[w.heap.size]? = some (.cells #[.pointer (some ⟨g, 0, none⟩)] 125 (0, 0)) ∧ w'.cell? ⟨w.heap.size, 0, none⟩ = some (.pointer (some ⟨g, 0, none⟩)) ∧ w'.heap[w.heap.size + 1]? = some (.cells #[.string ⟨#[]⟩, .string ⟨#[]⟩, .slice none 0 0, .slice none 0 0, .int .i64 0, .int .i64 0, .slice none 0 0] 104 (0, 0)) ∧ Below w0.heap.size w0 w' ∧ KeepBut w w' g none) ∧ TKr 127 [.bool t.f] g r2 e2 w' ∧ w'.heap[x]? = some (.cells #[.string ⟨#[]⟩, .string ⟨#[]⟩, .slice none 0 0, .slice none 0 0, .int .i64 0, .int .i64 0, .slice none 0 0] 104 (0, 0)) ∧ w.heap.size + 2 ≤ x) ?_ ?_
  rotate_left
  · intro hCont
    refine two_ (i := 3) (j := 9) (Ni := some 7) (Nj := some 3) #[true, true, true, true, true, true, true, false, false, false, false] #[true, true, true, false, true, true, true, false, false, true, false] rfl rfl rfl rfl (by kernel_rfl) (by decide) (by decide) (fun K hK => ?_) (fun K hK => ?_)
    · skip
      refine goes_ Tryz.func46 (by kernel_rfl) rfl #[.pointer (some ⟨g, 0, none⟩)] (by rfl) rfl rfl (by simp only [List.map_toArray, List.map_cons, List.map_nil]; rfl) ?_
      with_reducible refine (cT1 _ HTKd.out hHeld.2.2.2.1).mono ?_
      rintro x w3 ⟨rfl, hk⟩
      refine ⟨_, rfl, ?_⟩
      have K3 := Aside0.mk hk
      refine hK.out _ _ ⟨hk.keep.blk hHeld.1 (by have := HG.out.2.2; omega) (by simp), keep_cell hk.keep hHeld.2.1 (by have := HG.out.2.2; show w.heap.size ≠ g; omega), hk.keep.blk hHeld.2.2.1 (by have := HG.out.2.2; omega) (by simp), hk.below, KeepBut.then hHeld.2.2.2.2 hk.keep⟩ (fun hNow => ?_)
      clear hK K hHeld
      have hHeld := hNow
      clear hNow
      refine norm_ (a' := ?_) ?_ ?_
      rotate_left
      · show Act.put _ (some 7) _ = _
        simp only [Act.put, List.setIfInBounds_toArray, List.set_cons_zero, List.set_cons_succ, i64_w, i32_w]
        rfl
      refine two_ (i := 7) (j := 9) (Ni := some 11) (Nj := some 3) #[true, true, true, true, true, true, true, true, false, false, false] #[true, true, true, true, true, true, true, false, false, true, false] rfl rfl rfl rfl (by kernel_rfl) (by decide) (by decide) (fun K hK => ?_) (fun K hK => ?_)
      · skip
        refine goes_ Tryz.func46 (by kernel_rfl) rfl #[.pointer (some ⟨g, 0, none⟩)] (by rfl) rfl rfl (by simp only [List.map_toArray, List.map_cons, List.map_nil]; rfl) ?_
        with_reducible refine (cT2 _ _ K3.out).mono ?_
        rintro x w4 ⟨rfl, hk⟩
        refine ⟨_, rfl, ?_⟩
        have K4 := Aside0.mk hk
        refine hK.out _ _ ⟨hk.keep.blk hHeld.1 (by have := HG.out.2.2; omega) (by simp), keep_cell hk.keep hHeld.2.1 (by have := HG.out.2.2; show w.heap.size ≠ g; omega), hk.keep.blk hHeld.2.2.1 (by have := HG.out.2.2; omega) (by simp), hk.below, KeepBut.then hHeld.2.2.2.2 hk.keep⟩ (fun hNow => ?_)
        clear hK K hHeld
        have hHeld := hNow
        clear hNow
        refine norm_ (a' := ?_) ?_ ?_
        rotate_left
        · show Act.put _ (some 11) _ = _
          simp only [Act.put, List.setIfInBounds_toArray, List.set_cons_zero, List.set_cons_succ, i64_w, i32_w]
          rfl
        refine pure_ (i := 8) (N := some 12) (v := ?_) (a' := ?_) #[true, true, true, true, true, true, true, true, true, false, false] rfl rfl (by kernel_rfl) (fun _ _ _ h => h) (Or.inl ⟨by rfl, ?_⟩) ?_ ?_
        rotate_left
        · intro w'
          go_simp
          with_reducible rfl
        rotate_left
        · simp only [Act.put, List.setIfInBounds_toArray, List.set_cons_zero, List.set_cons_succ, i64_w, i32_w]
          rfl
        refine one_ (i := 9) (N := some 3) #[true, true, true, true, true, true, true, true, true, true, false] rfl rfl (by kernel_rfl) (by decide) (fun K hK => ?_)
        refine value_ (w1 := ?_) (v := ?_) (by rfl) rfl ?_ ?_
        rotate_left 2
        · go_simp
          constructor
          · rfl
          · rfl
        refine alloc_out (cs := #[.string ⟨#[]⟩, .string ⟨#[]⟩, .slice none 0 0, .slice none 0 0, .int .i64 0, .int .i64 0, .slice none 0 0]) (ty := 104) ?_ ?_
        · first | rfl | simp
        intro cb w5 hbx hbb hge
        have HCB := Aside0.mk hbx
        have HGE := Aside0.mk (show w.heap.size + 2 ≤ cb from by have := hHeld.2.2.1; have := blk_lt this; omega)
        have K4 := Aside0.mk (K4.out.quiet hbb)
        refine hK.out _ _ ⟨blk_below hHeld.1 hbb, cell_below_ hbb hHeld.2.1, blk_below hHeld.2.2.1 hbb, below_step hHeld.2.2.2.1 hbb, KeepBut.then hHeld.2.2.2.2 (KeepBut.of_below hbb g none)⟩ (fun hNow => ?_)
        clear hK K hHeld
        have hHeld := hNow
        clear hNow
        refine norm_ (a' := ?_) ?_ ?_
        rotate_left
        · show Act.put _ (some 3) _ = _
          simp only [Act.put, List.setIfInBounds_toArray, List.set_cons_zero, List.set_cons_succ, i64_w, i32_w]
          rfl
        exact norm_ (by simp only [putAll, Act.put, List.setIfInBounds_toArray, List.set_cons_zero, List.set_cons_succ]) (hCont cb _ ⟨hHeld, K4.out.tk, HCB.out, HGE.out⟩)
      · skip
        refine value_ (w1 := ?_) (v := ?_) (by rfl) rfl ?_ ?_
        rotate_left 2
        · go_simp
          constructor
          · rfl
          · rfl
        refine alloc_out (cs := #[.string ⟨#[]⟩, .string ⟨#[]⟩, .slice none 0 0, .slice none 0 0, .int .i64 0, .int .i64 0, .slice none 0 0]) (ty := 104) ?_ ?_
        · first | rfl | simp
        intro cb w5 hbx hbb hge
        have HCB := Aside0.mk hbx
        have HGE := Aside0.mk (show w.heap.size + 2 ≤ cb from by have := hHeld.2.2.1; have := blk_lt this; omega)
        have K3 := Aside0.mk (K3.out.quiet hbb)
        refine hK.out _ _ ⟨blk_below hHeld.1 hbb, cell_below_ hbb hHeld.2.1, blk_below hHeld.2.2.1 hbb, below_step hHeld.2.2.2.1 hbb, KeepBut.then hHeld.2.2.2.2 (KeepBut.of_below hbb g none)⟩ (fun hNow => ?_)
        clear hK K hHeld
        have hHeld := hNow
        clear hNow
        refine norm_ (a' := ?_) ?_ ?_
        rotate_left
        · show Act.put _ (some 3) _ = _
          simp only [Act.put, List.setIfInBounds_toArray, List.set_cons_zero, List.set_cons_succ, i64_w, i32_w]
          rfl
        refine one_ (i := 7) (N := some 11) #[true, true, true, true, true, true, true, true, false, true, false] rfl rfl (by kernel_rfl) (by decide) (fun K hK => ?_)
        refine goes_ Tryz.func46 (by kernel_rfl) rfl #[.pointer (some ⟨g, 0, none⟩)] (by rfl) rfl rfl (by simp only [List.map_toArray, List.map_cons, List.map_nil]; rfl) ?_
        with_reducible refine (cT2 _ _ K3.out).mono ?_
        rintro x w4 ⟨rfl, hk⟩
        refine ⟨_, rfl, ?_⟩
        have K4 := Aside0.mk hk
        have HCB := Aside0.mk (hk.keep.blk HCB.out (by have := HG.out.2.2; have := HGE.out; omega) (by simp))
        refine hK.out _ _ ⟨hk.keep.blk hHeld.1 (by have := HG.out.2.2; omega) (by simp), keep_cell hk.keep hHeld.2.1 (by have := HG.out.2.2; show w.heap.size ≠ g; omega), hk.keep.blk hHeld.2.2.1 (by have := HG.out.2.2; omega) (by simp), hk.below, KeepBut.then hHeld.2.2.2.2 hk.keep⟩ (fun hNow => ?_)
        clear hK K hHeld
        have hHeld := hNow
        clear hNow
        refine norm_ (a' := ?_) ?_ ?_
        rotate_left
        · show Act.put _ (some 11) _ = _
          simp only [Act.put, List.setIfInBounds_toArray, List.set_cons_zero, List.set_cons_succ, i64_w, i32_w]
          rfl
        refine pure_ (i := 8) (N := some 12) (v := ?_) (a' := ?_) #[true, true, true, true, true, true, true, true, true, true, false] rfl rfl (by kernel_rfl) (fun _ _ _ h => h) (Or.inl ⟨by rfl, ?_⟩) ?_ ?_
        rotate_left
        · intro w'
          go_simp
          with_reducible rfl
        rotate_left
        · simp only [Act.put, List.setIfInBounds_toArray, List.set_cons_zero, List.set_cons_succ, i64_w, i32_w]
          rfl
        exact norm_ (by simp only [putAll, Act.put, List.setIfInBounds_toArray, List.set_cons_zero, List.set_cons_succ]) (hCont cb _ ⟨hHeld, K4.out.tk, HCB.out, HGE.out⟩)
    · skip
      refine value_ (w1 := ?_) (v := ?_) (by rfl) rfl ?_ ?_
      rotate_left 2
      · go_simp
        constructor
        · rfl
        · rfl
      refine alloc_out_drew (cs := #[.string ⟨#[]⟩, .string ⟨#[]⟩, .slice none 0 0, .slice none 0 0, .int .i64 0, .int .i64 0, .slice none 0 0]) (ty := 104) ?_ ?_
      · first | rfl | simp
      intro cb w5 hbx hbb hge
      have HCB := Aside0.mk hbx
      have HGE := Aside0.mk (show w.heap.size + 2 ≤ cb from by have := hHeld.2.2.1; have := blk_lt this; omega)
      have HTK5 : Aside0 (TKr 127 [.bool t.f] g t.r t.e w5) := ⟨blk_below HTKd.out hbb⟩
      refine hK.out _ _ ⟨blk_below hHeld.1 hbb, cell_below_ hbb hHeld.2.1, blk_below hHeld.2.2.1 hbb, below_step hHeld.2.2.2.1 hbb, KeepBut.then hHeld.2.2.2.2 (KeepBut.of_below hbb g none)⟩ (fun hNow => ?_)
      clear hK K hHeld
      have hHeld := hNow
      clear hNow
      refine norm_ (a' := ?_) ?_ ?_
      rotate_left
      · show Act.put _ (some 3) _ = _
        simp only [Act.put, List.setIfInBounds_toArray, List.set_cons_zero, List.set_cons_succ, i64_w, i32_w]
        rfl
      refine one_ (i := 3) (N := some 7) #[true, true, true, true, true, true, true, false, false, true, false] rfl rfl (by kernel_rfl) (by decide) (fun K hK => ?_)
      refine goes_ Tryz.func46 (by kernel_rfl) rfl #[.pointer (some ⟨g, 0, none⟩)] (by rfl) rfl rfl (by simp only [List.map_toArray, List.map_cons, List.map_nil]; rfl) ?_
      with_reducible refine (cT1 _ HTK5.out hHeld.2.2.2.1).mono ?_
      rintro x w3 ⟨rfl, hk⟩
      refine ⟨_, rfl, ?_⟩
      have K3 := Aside0.mk hk
      have HCB := Aside0.mk (hk.keep.blk HCB.out (by have := HG.out.2.2; have := HGE.out; omega) (by simp))
      refine hK.out _ _ ⟨hk.keep.blk hHeld.1 (by have := HG.out.2.2; omega) (by simp), keep_cell hk.keep hHeld.2.1 (by have := HG.out.2.2; show w.heap.size ≠ g; omega), hk.keep.blk hHeld.2.2.1 (by have := HG.out.2.2; omega) (by simp), hk.below, KeepBut.then hHeld.2.2.2.2 hk.keep⟩ (fun hNow => ?_)
      clear hK K hHeld
      have hHeld := hNow
      clear hNow
      refine norm_ (a' := ?_) ?_ ?_
      rotate_left
      · show Act.put _ (some 7) _ = _
        simp only [Act.put, List.setIfInBounds_toArray, List.set_cons_zero, List.set_cons_succ, i64_w, i32_w]
        rfl
      refine one_ (i := 7) (N := some 11) #[true, true, true, true, true, true, true, true, false, true, false] rfl rfl (by kernel_rfl) (by decide) (fun K hK => ?_)
      refine goes_ Tryz.func46 (by kernel_rfl) rfl #[.pointer (some ⟨g, 0, none⟩)] (by rfl) rfl rfl (by simp only [List.map_toArray, List.map_cons, List.map_nil]; rfl) ?_
      with_reducible refine (cT2 _ _ K3.out).mono ?_
      rintro x w4 ⟨rfl, hk⟩
      refine ⟨_, rfl, ?_⟩
      have K4 := Aside0.mk hk
      have HCB := Aside0.mk (hk.keep.blk HCB.out (by have := HG.out.2.2; have := HGE.out; omega) (by simp))
      refine hK.out _ _ ⟨hk.keep.blk hHeld.1 (by have := HG.out.2.2; omega) (by simp), keep_cell hk.keep hHeld.2.1 (by have := HG.out.2.2; show w.heap.size ≠ g; omega), hk.keep.blk hHeld.2.2.1 (by have := HG.out.2.2; omega) (by simp), hk.below, KeepBut.then hHeld.2.2.2.2 hk.keep⟩ (fun hNow => ?_)
      clear hK K hHeld
      have hHeld := hNow
      clear hNow
      refine norm_ (a' := ?_) ?_ ?_
      rotate_left
      · show Act.put _ (some 11) _ = _
        simp only [Act.put, List.setIfInBounds_toArray, List.set_cons_zero, List.set_cons_succ, i64_w, i32_w]
        rfl
      refine pure_ (i := 8) (N := some 12) (v := ?_) (a' := ?_) #[true, true, true, true, true, true, true, true, true, true, false] rfl rfl (by kernel_rfl) (fun _ _ _ h => h) (Or.inl ⟨by rfl, ?_⟩) ?_ ?_
      rotate_left
      · intro w'
        go_simp
        with_reducible rfl
      rotate_left
      · simp only [Act.put, List.setIfInBounds_toArray, List.set_cons_zero, List.set_cons_succ, i64_w, i32_w]
        rfl
      exact norm_ (by simp only [putAll, Act.put, List.setIfInBounds_toArray, List.set_cons_zero, List.set_cons_succ]) (hCont cb _ ⟨hHeld, K4.out.tk, HCB.out, HGE.out⟩)
  rintro cb w4 ⟨hHeld, hTK4, hCB4, hcb4⟩
  refine norm_ (a' := ?_) ?_ ?_
  rotate_left
  · simp only [putAll, Act.put, List.setIfInBounds_toArray, List.set_cons_zero, List.set_cons_succ]
    rfl
  refine last_ (i := 10) (N := none) #[true, true, true, true, true, true, true, true, true, true, true] rfl rfl (by kernel_rfl) (by decide) (fun K hK => ?_)
  have HS4 := Aside0.mk hHeld
  have z0 : w4.cell? ⟨cb, 0, none⟩ = some (.string ⟨#[]⟩) := by rw [blk_cell hCB4]; rfl
  have z1 : w4.cell? ⟨cb, 1, none⟩ = some (.string ⟨#[]⟩) := by rw [blk_cell hCB4]; rfl
  have z2 : w4.cell? ⟨cb, 2, none⟩ = some (.slice none 0 0) := by rw [blk_cell hCB4]; rfl
  have z3 : w4.cell? ⟨cb, 3, none⟩ = some (.slice none 0 0) := by rw [blk_cell hCB4]; rfl
  have z4 : w4.cell? ⟨cb, 4, none⟩ = some (.int .i64 0) := by rw [blk_cell hCB4]; rfl
  have z5 : w4.cell? ⟨cb, 5, none⟩ = some (.int .i64 0) := by rw [blk_cell hCB4]; rfl
  have z6 : w4.cell? ⟨cb, 6, none⟩ = some (.slice none 0 0) := by rw [blk_cell hCB4]; rfl
  have y0 := blk_frozen hCB4 0
  have y1 := blk_frozen hCB4 1
  have y2 := blk_frozen hCB4 2
  have y3 := blk_frozen hCB4 3
  have y4 := blk_frozen hCB4 4
  have y5 := blk_frozen hCB4 5
  have y6 := blk_frozen hCB4 6
  refine skip_ (w1 := ?_) (by rfl) rfl ?_ ?_
  rotate_left
  · go_simp
    rfl
  refine hK.out _ _ ?_
  clear hK K
  refine done_ (by kernel_rfl) ?_
  have hcd : CD g cb w.heap.size (w.heap.size + 1) w0 w #[.string (tx x1), .string (tx x2), .slice none 0 0, .slice none 0 0, .int .i64 0, .int .i64 0, .slice none 0 0] ⟨r2, e2, t.f⟩ (put7 w4 cb (.string (tx x1)) (.string (tx x2)) (.slice none 0 0) (.slice none 0 0) (.int .i64 0) (.int .i64 0) (.slice none 0 0)) := by
    have hp := put7_keep w4 cb (.string (tx x1)) (.string (tx x2)) (.slice none 0 0) (.slice none 0 0) (.int .i64 0) (.int .i64 0) (.slice none 0 0)
    have g1 := HG.out.2.2
    have g2 := HG.out.2.1
    have g3 := HG.out.1.size
    exact ⟨hp.blk hTK4 (by omega) (by simp), put7_blk hCB4 _ _ _ _ _ _ _, hp.blk HS4.out.2.2.1 (by omega) (by simp), hp.blk HS4.out.1 (by omega) (by simp), put7_below HS4.out.2.2.2.1 (by omega) _ _ _ _ _ _ _,
      ⟨Nat.le_trans HS4.out.2.2.2.2.1 hp.1, fun k h1 h2 _ => (hp.2 k (Nat.lt_of_lt_of_le h1 HS4.out.2.2.2.2.1) (by omega) (by simp)).trans (HS4.out.2.2.2.2.2 k h1 h2 (by simp))⟩, g1, by omega, by omega, by omega, by omega, by omega, g2, by omega⟩
  change Exit.then _ _ _ _ (put7 w4 cb (.string (tx x1)) (.string (tx x2)) (.slice none 0 0) (.slice none 0 0) (.int .i64 0) (.int .i64 0) (.slice none 0 0))
  generalize put7 w4 cb (.string (tx x1)) (.string (tx x2)) (.slice none 0 0) (.slice none 0 0) (.int .i64 0) (.int .i64 0) (.slice none 0 0) = w5 at hcd ⊢
  have H5 := Aside0.mk hcd
  clear hcd z0 z1 z2 z3 z4 z5 z6 y0 y1 y2 y3 y4 y5 y6 hTK4 hCB4 hcb4 hHeld HS4 cT1 cT2 HTK HTKd HK1 HR1 HT1 HB1
  have e5 := H5.out.ptr
  obtain ⟨⟨t2, l2⟩, hm1⟩ : ∃ p, p = manyT 1 16 one1 ⟨r2, e2, t.f⟩ ([] : List ByteArray) := ⟨_, rfl⟩
  obtain ⟨⟨t3, l3⟩, hm2⟩ : ∃ p, p = manyT 1 16 one2 t2 ([] : List S160) := ⟨_, rfl⟩
  have cM1 := many1 H5.out (by simp) rfl
  rw [← hm1] at cM1
  dsimp only at cM1
  have HM := Aside0.mk (And.intro hm1 hm2)
  clear hm1
  go_wp2_with (go_at_call 58; refine cM1.mono ?_; rintro x w6 ⟨rfl, v2, h6, hr2, _⟩; obtain ⟨A2, c2, rfl⟩ := R_slice hr2; have H6 := Aside0.mk h6; have HR := Aside0.mk hr2; have e6 := H6.out.ptr; clear h6 hr2 cM1 e5 H5)
  have cM2 := many2 H6.out (by simp) rfl
  rw [← hm2] at cM2
  dsimp only at cM2
  clear hm2
  go_wp2_with (go_at_call 58; refine cM2.mono ?_; rintro x w7 ⟨rfl, v3, h7, hr3, hm⟩; obtain ⟨A3, c3, rfl⟩ := R_slice hr3; have H7 := Aside0.mk h7; have HR2 := Aside0.mk (H6.out.row hm HR.out); have HR3 := Aside0.mk hr3; have e7 := H7.out.ptr; clear h7 hr3 hm cM2 e6 H6 HR)
  cases hbad : t3.bad with
  | true =>
    have HF := Aside0.mk (show contT t = (⟨tx x1, tx x2, l2, l3, 0, 0, []⟩, t3) from by
      unfold contT
      simp only [← HKK.out.1, ← HKK.out.2, ← HM.out.1, ← HM.out.2, hbad, if_true])
    have cB := bad.calls H7.out.tk true hbad
    clear hbad HKK HM
    go_wp2_with (go_at_call 97; refine cB.mono ?_; rintro x w8 ⟨rfl, hb⟩; have h8 := H7.out.keeps (Mod2.below (Mod2.refl _ _ _) hb) (H7.out.tk.below hb) (blk_below H7.out.blk hb) (below_step H7.out.below hb); have H8 := Aside0.mk h8; replace HR2 := Aside0.mk (Kd.R_below HR2.out hb); replace HR3 := Aside0.mk (Kd.R_below HR3.out hb); clear h8 hb cB e7 H7;have hb8 := H8.out.blk;have b0 : w8.cell? ⟨cb, 0, none⟩ = some (.string (tx x1)) := (by rw [blk_cell hb8]; rfl);have b1 : w8.cell? ⟨cb, 1, none⟩ = some (.string (tx x2)) := (by rw [blk_cell hb8]; rfl);have b2 : w8.cell? ⟨cb, 2, none⟩ = some (.slice A2 l2.length c2) := (by rw [blk_cell hb8]; rfl);have b3 : w8.cell? ⟨cb, 3, none⟩ = some (.slice A3 l3.length c3) := (by rw [blk_cell hb8]; rfl);have b4 : w8.cell? ⟨cb, 4, none⟩ = some (.int .i64 0) := (by rw [blk_cell hb8]; rfl);have b5 : w8.cell? ⟨cb, 5, none⟩ = some (.int .i64 0) := (by rw [blk_cell hb8]; rfl);have b6 : w8.cell? ⟨cb, 6, none⟩ = some (.slice none 0 0) := (by rw [blk_cell hb8]; rfl);have hrb := H8.out.rblk;have d0 : w8.cell? ⟨w.heap.size + 1, 0, none⟩ = some (.string ⟨#[]⟩) := (by rw [blk_cell hrb]; rfl);have d1 : w8.cell? ⟨w.heap.size + 1, 1, none⟩ = some (.string ⟨#[]⟩) := (by rw [blk_cell hrb]; rfl);have d2 : w8.cell? ⟨w.heap.size + 1, 2, none⟩ = some (.slice none 0 0) := (by rw [blk_cell hrb]; rfl);have d3 : w8.cell? ⟨w.heap.size + 1, 3, none⟩ = some (.slice none 0 0) := (by rw [blk_cell hrb]; rfl);have d4 : w8.cell? ⟨w.heap.size + 1, 4, none⟩ = some (.int .i64 0) := (by rw [blk_cell hrb]; rfl);have d5 : w8.cell? ⟨w.heap.size + 1, 5, none⟩ = some (.int .i64 0) := (by rw [blk_cell hrb]; rfl);have d6 : w8.cell? ⟨w.heap.size + 1, 6, none⟩ = some (.slice none 0 0) := (by rw [blk_cell hrb]; rfl);have y0 := blk_frozen hrb 0;have y1 := blk_frozen hrb 1;have y2 := blk_frozen hrb 2;have y3 := blk_frozen hrb 3;have y4 := blk_frozen hrb 4;have y5 := blk_frozen hrb 5;have y6 := blk_frozen hrb 6;clear hb8 hrb)
    have hq := put7_blk (show w8.heap[w.heap.size + 1]? = some (.cells #[.string ⟨#[]⟩, .string ⟨#[]⟩, .slice none 0 0, .slice none 0 0, .int .i64 0, .int .i64 0, .slice none 0 0] 104 (0, 0)) from H8.out.rblk) (.string (tx x1)) (.string (tx x2)) (.slice A2 l2.length c2) (.slice A3 l3.length c3) (.int .i64 0) (.int .i64 0) (.slice none 0 0)
    have p0 := (blk_cell hq 0).trans rfl
    have p1 := (blk_cell hq 1).trans rfl
    have p2 := (blk_cell hq 2).trans rfl
    have p3 := (blk_cell hq 3).trans rfl
    have p4 := (blk_cell hq 4).trans rfl
    have p5 := (blk_cell hq 5).trans rfl
    have p6 := (blk_cell hq 6).trans rfl
    unfold put7 at p0 p1 p2 p3 p4 p5 p6
    clear hq b0 b1 b2 b3 b4 b5 b6 d0 d1 d2 d3 d4 d5 d6 y0 y1 y2 y3 y4 y5 y6
    refine bodyPost_ret (v := .agg #[.string (tx x1), .string (tx x2), .slice A2 l2.length c2, .slice A3 l3.length c3, .int .i64 0, .int .i64 0, .slice none 0 0]) (by simp [results, Tryz.results62, go_sem, p0, p1, p2, p3, p4, p5, p6]) rfl ?_
    rw [HF.out]
    exact ⟨[.string (tx x1), .string (tx x2), .slice A2 l2.length c2, .slice A3 l3.length c3, .int .i64 0, .int .i64 0, .slice none 0 0], rfl, H8.out.leave HR2.out HR3.out (Kd.R_nil k161 161 _ _ _)⟩
  | false =>
    obtain ⟨he3, hf3⟩ := bad_false hbad
    have cB := bad.calls H7.out.tk false hbad
    obtain ⟨r3, e3, f3⟩ := t3
    dsimp only at he3 hf3
    subst he3
    subst hf3
    obtain ⟨⟨n4, r4, e4⟩, hp4⟩ : ∃ p, p = takeT 4 r3 0 := ⟨_, rfl⟩
    obtain ⟨⟨n5, r5, e5⟩, hp5⟩ : ∃ p, p = takeT 4 r4 e4 := ⟨_, rfl⟩
    obtain ⟨⟨t6, l6⟩, hp6⟩ : ∃ p, p = manyT 1 16 one3 ⟨r5, e5, false⟩ ([] : List S161) := ⟨_, rfl⟩
    have HF := Aside0.mk (show contT t = (⟨tx x1, tx x2, l2, l3, (n4 : Int), (n5 : Int), l6⟩, t6) from by
      unfold contT
      simp only [← HKK.out.1, ← HKK.out.2, ← HM.out.1, ← HM.out.2, hbad, if_false, Bool.false_eq_true, ← hp4, ← hp5, ← hp6])
    have hn4 := takeT_lt4 r3 0
    rw [← hp4] at hn4
    have hn5 := takeT_lt4 r4 e4
    rw [← hp5] at hn5
    have cT4 : ∀ (W : World) (k : TKr 127 [.bool false] g r3 0 W) (kb : Below w0.heap.size w0 W), Calls Tryz.prog 44 #[.pointer (some ⟨g, 0, none⟩), .int .i64 4] W _ := fun (W : World) (k : TKr 127 [.bool false] g r3 0 W) (kb : Below w0.heap.size w0 W) => Take.calls 4 k kb HG.out.2.1 (by decide)
    rw [← hp4] at cT4
    have cT5 : ∀ (W W2 : World) (k : TKs 127 [.bool false] g r4 e4 w0 W W2), Calls Tryz.prog 44 #[.pointer (some ⟨g, 0, none⟩), .int .i64 4] W2 _ := fun (W W2 : World) (k : TKs 127 [.bool false] g r4 e4 w0 W W2) => Take.calls 4 k.tk k.below HG.out.2.1 (by decide)
    rw [← hp5] at cT5
    dsimp only at hn4 hn5 cT4 cT5
    have HP6 := Aside0.mk hp6
    clear hbad HKK HM hp4 hp5 hp6
    go_wp2_with (go_at_call 97; refine cB.mono ?_; rintro x w8 ⟨rfl, hb⟩; have h8 := H7.out.keeps (Mod2.below (Mod2.refl _ _ _) hb) (H7.out.tk.below hb) (blk_below H7.out.blk hb) (below_step H7.out.below hb); have H8 := Aside0.mk h8; replace HR2 := Aside0.mk (Kd.R_below HR2.out hb); replace HR3 := Aside0.mk (Kd.R_below HR3.out hb); clear h8 hb cB e7 H7)
    have q1 : IntKind.i64.wrap (n4 : Int) = n4 := IntWalk.i64_in _ (by omega)
    have q2 : IntKind.i64.wrap (n5 : Int) = n5 := IntWalk.i64_in _ (by omega)
    have q3 : wrap64 (n4 : Int) = n4 := IntWalk.wrap64_in _ (by omega)
    have q4 : wrap64 (n5 : Int) = n5 := IntWalk.wrap64_in _ (by omega)
    refine start_ (n := 14) (S := fun w' => w'.cell? ⟨w.heap.size, 0, none⟩ = some (.pointer (some ⟨g, 0, none⟩))) (ds := [13]) #[false, false, false, false, false, false, false, false, false, false, false, false, false, false] (by kernel_rfl) rfl rfl ((cell_below_ (below_drew1 (Below.refl _ _)) H8.out.ptr)) (fun hHeld => ?_)
    refine take_ (i := 0) (N := some 22) (v := ?_) (a' := ?_) #[true, false, false, false, false, false, false, false, false, false, false, false, false, false] rfl rfl (by kernel_rfl) (fun _ _ _ h => h) (Or.inl ⟨by rfl, ?_⟩) hHeld ?_ ?_
    rotate_left
    · intro w' s0
      go_simp
      with_reducible rfl
    rotate_left
    · simp only [Act.put, List.setIfInBounds_toArray, List.set_cons_zero, List.set_cons_succ, i64_w, i32_w]
      rfl
    refine pure_ (i := 1) (N := some 23) (v := ?_) (a' := ?_) #[true, true, false, false, false, false, false, false, false, false, false, false, false, false] rfl rfl (by kernel_rfl) (fun _ _ _ h => h) (Or.inl ⟨by rfl, ?_⟩) ?_ ?_
    rotate_left
    · intro w'
      go_simp
      with_reducible rfl
    rotate_left
    · simp only [Act.put, List.setIfInBounds_toArray, List.set_cons_zero, List.set_cons_succ, i64_w, i32_w]
      rfl
    refine pure_ (i := 2) (N := some 24) (v := ?_) (a' := ?_) #[true, true, true, false, false, false, false, false, false, false, false, false, false, false] rfl rfl (by kernel_rfl) (fun _ _ _ h => h) (Or.inl ⟨by rfl, ?_⟩) ?_ ?_
    rotate_left
    · intro w'
      go_simp
      with_reducible rfl
    rotate_left
    · simp only [Act.put, List.setIfInBounds_toArray, List.set_cons_zero, List.set_cons_succ, i64_w, i32_w]
      rfl
    refine take_ (i := 5) (N := some 27) (v := ?_) (a' := ?_) #[true, true, true, false, false, true, false, false, false, false, false, false, false, false] rfl rfl (by kernel_rfl) (fun _ _ _ h => h) (Or.inl ⟨by rfl, ?_⟩) hHeld ?_ ?_
    rotate_left
    · intro w' s0
      go_simp
      with_reducible rfl
    rotate_left
    · simp only [Act.put, List.setIfInBounds_toArray, List.set_cons_zero, List.set_cons_succ, i64_w, i32_w]
      rfl
    refine pure_ (i := 6) (N := some 28) (v := ?_) (a' := ?_) #[true, true, true, false, false, true, true, false, false, false, false, false, false, false] rfl rfl (by kernel_rfl) (fun _ _ _ h => h) (Or.inl ⟨by rfl, ?_⟩) ?_ ?_
    rotate_left
    · intro w'
      go_simp
      with_reducible rfl
    rotate_left
    · simp only [Act.put, List.setIfInBounds_toArray, List.set_cons_zero, List.set_cons_succ, i64_w, i32_w]
      rfl
    refine pure_ (i := 7) (N := some 29) (v := ?_) (a' := ?_) #[true, true, true, false, false, true, true, true, false, false, false, false, false, false] rfl rfl (by kernel_rfl) (fun _ _ _ h => h) (Or.inl ⟨by rfl, ?_⟩) ?_ ?_
    rotate_left
    · intro w'
      go_simp
      with_reducible rfl
    rotate_left
    · simp only [Act.put, List.setIfInBounds_toArray, List.set_cons_zero, List.set_cons_succ, i64_w, i32_w]
      rfl
    refine one_ (i := 3) (N := some 25) #[true, true, true, true, false, true, true, true, false, false, false, false, false, false] rfl rfl (by kernel_rfl) (by decide) (fun K hK => ?_)
    refine goes_ Tryz.func44 (by kernel_rfl) rfl #[.pointer (some ⟨g, 0, none⟩), .int .i64 4] (by rfl) rfl rfl (by simp only [List.map_toArray, List.map_cons, List.map_nil]; rfl) ?_
    with_reducible refine (cT4 _ (TK3.drew1 H8.out.tk) (below_drew1 H8.out.below)).mono ?_
    rintro x w9 ⟨rfl, hk⟩
    refine ⟨_, rfl, ?_⟩
    have K9 := Aside0.mk hk
    refine hK.out _ _ (keep_cell hk.keep hHeld (by have := HG.out.2.2; show w.heap.size ≠ g; omega)) (fun hNow => ?_)
    clear hK K hHeld
    have hHeld := hNow
    clear hNow
    refine norm_ (a' := ?_) ?_ ?_
    rotate_left
    · show Act.put _ (some 25) _ = _
      simp only [Act.put, List.setIfInBounds_toArray, List.set_cons_zero, List.set_cons_succ, i64_w, i32_w]
      rfl
    refine pure_ (i := 4) (N := some 26) (v := ?_) (a' := ?_) #[true, true, true, true, true, true, true, true, false, false, false, false, false, false] rfl rfl (by kernel_rfl) (fun _ _ _ h => h) (Or.inl ⟨by rfl, ?_⟩) ?_ ?_
    rotate_left
    · intro w'
      go_simp
      with_reducible rfl
    rotate_left
    · simp only [Act.put, List.setIfInBounds_toArray, List.set_cons_zero, List.set_cons_succ, i64_w, i32_w]
      rfl
    refine pure_ (i := 10) (N := some 32) (v := ?_) (a' := ?_) #[true, true, true, true, true, true, true, true, false, false, true, false, false, false] rfl rfl (by kernel_rfl) (fun _ _ _ h => h) (Or.inl ⟨by rfl, ?_⟩) ?_ ?_
    rotate_left
    · intro w'
      go_simp
      with_reducible rfl
    rotate_left
    · simp only [Act.put, List.setIfInBounds_toArray, List.set_cons_zero, List.set_cons_succ, i64_w, i32_w]
      rfl
    refine one_ (i := 8) (N := some 30) #[true, true, true, true, true, true, true, true, true, false, true, false, false, false] rfl rfl (by kernel_rfl) (by decide) (fun K hK => ?_)
    refine goes_ Tryz.func44 (by kernel_rfl) rfl #[.pointer (some ⟨g, 0, none⟩), .int .i64 4] (by rfl) rfl rfl (by simp only [List.map_toArray, List.map_cons, List.map_nil]; rfl) ?_
    with_reducible refine (cT5 _ _ K9.out).mono ?_
    rintro x w10 ⟨rfl, hk2⟩
    refine ⟨_, rfl, ?_⟩
    have K10 := Aside0.mk hk2
    refine hK.out _ _ (keep_cell hk2.keep hHeld (by have := HG.out.2.2; show w.heap.size ≠ g; omega)) (fun hNow => ?_)
    clear hK K hHeld
    have hHeld := hNow
    clear hNow
    refine norm_ (a' := ?_) ?_ ?_
    rotate_left
    · show Act.put _ (some 30) _ = _
      simp only [Act.put, List.setIfInBounds_toArray, List.set_cons_zero, List.set_cons_succ, i64_w, i32_w]
      rfl
    refine pure_ (i := 9) (N := some 31) (v := ?_) (a' := ?_) #[true, true, true, true, true, true, true, true, true, true, true, false, false, false] rfl rfl (by kernel_rfl) (fun _ _ _ h => h) (Or.inl ⟨by rfl, ?_⟩) ?_ ?_
    rotate_left
    · intro w'
      go_simp
      with_reducible rfl
    rotate_left
    · simp only [Act.put, List.setIfInBounds_toArray, List.set_cons_zero, List.set_cons_succ, i64_w, i32_w]
      rfl
    refine one_ (i := 11) (N := none) #[true, true, true, true, true, true, true, true, true, true, true, true, false, false] rfl rfl (by kernel_rfl) (by decide) (fun K hK => ?_)
    have hb10 := (KeepBut.then K9.out.keep K10.out.keep).blk (show w8.drew.heap[cb]? = _ from H8.out.blk) H8.out.ce.cg (by simp)
    have z4 : w10.cell? ⟨cb, 4, none⟩ = some (.int .i64 0) := by rw [blk_cell hb10]; rfl
    have y4 := blk_frozen hb10 4
    refine skip_ (w1 := ?_) (by rfl) rfl ?_ ?_
    rotate_left
    · go_simp
      rfl
    refine hK.out _ _ ((World.cell?_of_block (Below.heap_setCell w10 ⟨cb, 4, none⟩ (.int .i64 (n4 : Int)) w.heap.size H8.out.tc)).trans hHeld) (fun hNow => ?_)
    clear hK K hHeld
    have hHeld := hNow
    clear hNow
    refine pure_ (i := 12) (N := some 33) (v := ?_) (a' := ?_) #[true, true, true, true, true, true, true, true, true, true, true, true, true, false] rfl rfl (by kernel_rfl) (fun _ _ _ h => h) (Or.inl ⟨by rfl, ?_⟩) ?_ ?_
    rotate_left
    · intro w'
      go_simp
      with_reducible rfl
    rotate_left
    · simp only [Act.put, List.setIfInBounds_toArray, List.set_cons_zero, List.set_cons_succ, i64_w, i32_w]
      rfl
    refine last_ (i := 13) (N := none) #[true, true, true, true, true, true, true, true, true, true, true, true, true, true] rfl rfl (by kernel_rfl) (by decide) (fun K hK => ?_)
    have hb11 := blk_put hb10 4 (.int .i64 (n4 : Int)) rfl
    have z5 : (w10.setCell ⟨cb, 4, none⟩ (.int .i64 (n4 : Int))).cell? ⟨cb, 5, none⟩ = some (.int .i64 0) := by rw [blk_cell hb11]; rfl
    have y5 := blk_frozen hb11 5
    refine skip_ (w1 := ?_) (by rfl) rfl ?_ ?_
    rotate_left
    · go_simp
      rfl
    refine hK.out _ _ ?_
    clear hK K
    refine done_ (by kernel_rfl) ?_
    clear hHeld q1 q2 q3 q4 cT4 cT5 z4 z5 y4 y5
    have hm12 : Mod2 g cb w8 ((w10.setCell ⟨cb, 4, none⟩ (.int .i64 (n4 : Int))).setCell ⟨cb, 5, none⟩ (.int .i64 (n5 : Int))) := (((Mod2.refl g cb w8).keep (KeepBut.then (KeepBut.of_below (below_drew1 (Below.refl _ _)) g none) (KeepBut.then K9.out.keep K10.out.keep))).set 4 _).set 5 _
    have hcd : CD g cb w.heap.size (w.heap.size + 1) w0 w #[.string (tx x1), .string (tx x2), .slice A2 l2.length c2, .slice A3 l3.length c3, .int .i64 (n4 : Int), .int .i64 (n5 : Int), .slice none 0 0] ⟨r5, e5, false⟩ ((w10.setCell ⟨cb, 4, none⟩ (.int .i64 (n4 : Int))).setCell ⟨cb, 5, none⟩ (.int .i64 (n5 : Int))) :=
      CD.two (t2 := ⟨r5, e5, false⟩) H8.out K10.out.below (KeepBut.then (KeepBut.of_below (below_drew1 (Below.refl _ _)) g none) (KeepBut.then K9.out.keep K10.out.keep)) K10.out.tk _ _
    have hr2 := H8.out.row hm12 HR2.out
    have hr3 := H8.out.row hm12 HR3.out
    clear hb10 hb11 hk hk2 K9 K10 HR2 HR3 H8 hm12
    generalize (w10.setCell ⟨cb, 4, none⟩ (.int .i64 (n4 : Int))).setCell ⟨cb, 5, none⟩ (.int .i64 (n5 : Int)) = w12 at hcd hr2 hr3 ⊢
    have H12 := Aside0.mk hcd
    have HR2 := Aside0.mk hr2
    have HR3 := Aside0.mk hr3
    have e12 := H12.out.ptr
    clear hcd hr2 hr3
    have cM3 := many3 H12.out (by simp) rfl
    rw [← HP6.out] at cM3
    dsimp only at cM3
    go_wp2_with (go_at_call 58; refine cM3.mono ?_; rintro x w8 ⟨rfl, v6, h8, hr6, hm⟩; obtain ⟨A6, c6, rfl⟩ := R_slice hr6; have H8 := Aside0.mk h8; replace HR2 := Aside0.mk (H12.out.row hm HR2.out); replace HR3 := Aside0.mk (H12.out.row hm HR3.out); have HR6 := Aside0.mk hr6; clear h8 hr6 hm cM3 e12 H12 HP6; have hb8 := H8.out.blk;have b0 : w8.cell? ⟨cb, 0, none⟩ = some (.string (tx x1)) := (by rw [blk_cell hb8]; rfl);have b1 : w8.cell? ⟨cb, 1, none⟩ = some (.string (tx x2)) := (by rw [blk_cell hb8]; rfl);have b2 : w8.cell? ⟨cb, 2, none⟩ = some (.slice A2 l2.length c2) := (by rw [blk_cell hb8]; rfl);have b3 : w8.cell? ⟨cb, 3, none⟩ = some (.slice A3 l3.length c3) := (by rw [blk_cell hb8]; rfl);have b4 : w8.cell? ⟨cb, 4, none⟩ = some (.int .i64 (n4 : Int)) := (by rw [blk_cell hb8]; rfl);have b5 : w8.cell? ⟨cb, 5, none⟩ = some (.int .i64 (n5 : Int)) := (by rw [blk_cell hb8]; rfl);have b6 : w8.cell? ⟨cb, 6, none⟩ = some (.slice A6 l6.length c6) := (by rw [blk_cell hb8]; rfl);have hrb := H8.out.rblk;have d0 : w8.cell? ⟨w.heap.size + 1, 0, none⟩ = some (.string ⟨#[]⟩) := (by rw [blk_cell hrb]; rfl);have d1 : w8.cell? ⟨w.heap.size + 1, 1, none⟩ = some (.string ⟨#[]⟩) := (by rw [blk_cell hrb]; rfl);have d2 : w8.cell? ⟨w.heap.size + 1, 2, none⟩ = some (.slice none 0 0) := (by rw [blk_cell hrb]; rfl);have d3 : w8.cell? ⟨w.heap.size + 1, 3, none⟩ = some (.slice none 0 0) := (by rw [blk_cell hrb]; rfl);have d4 : w8.cell? ⟨w.heap.size + 1, 4, none⟩ = some (.int .i64 0) := (by rw [blk_cell hrb]; rfl);have d5 : w8.cell? ⟨w.heap.size + 1, 5, none⟩ = some (.int .i64 0) := (by rw [blk_cell hrb]; rfl);have d6 : w8.cell? ⟨w.heap.size + 1, 6, none⟩ = some (.slice none 0 0) := (by rw [blk_cell hrb]; rfl);have y0 := blk_frozen hrb 0;have y1 := blk_frozen hrb 1;have y2 := blk_frozen hrb 2;have y3 := blk_frozen hrb 3;have y4 := blk_frozen hrb 4;have y5 := blk_frozen hrb 5;have y6 := blk_frozen hrb 6;clear hb8 hrb)
    have hq := put7_blk (show w8.heap[w.heap.size + 1]? = some (.cells #[.string ⟨#[]⟩, .string ⟨#[]⟩, .slice none 0 0, .slice none 0 0, .int .i64 0, .int .i64 0, .slice none 0 0] 104 (0, 0)) from H8.out.rblk) (.string (tx x1)) (.string (tx x2)) (.slice A2 l2.length c2) (.slice A3 l3.length c3) (.int .i64 (n4 : Int)) (.int .i64 (n5 : Int)) (.slice A6 l6.length c6)
    have p0 := (blk_cell hq 0).trans rfl
    have p1 := (blk_cell hq 1).trans rfl
    have p2 := (blk_cell hq 2).trans rfl
    have p3 := (blk_cell hq 3).trans rfl
    have p4 := (blk_cell hq 4).trans rfl
    have p5 := (blk_cell hq 5).trans rfl
    have p6 := (blk_cell hq 6).trans rfl
    unfold put7 at p0 p1 p2 p3 p4 p5 p6
    clear hq b0 b1 b2 b3 b4 b5 b6 d0 d1 d2 d3 d4 d5 d6 y0 y1 y2 y3 y4 y5 y6
    refine bodyPost_ret (v := .agg #[.string (tx x1), .string (tx x2), .slice A2 l2.length c2, .slice A3 l3.length c3, .int .i64 (n4 : Int), .int .i64 (n5 : Int), .slice A6 l6.length c6]) (by simp [results, Tryz.results62, go_sem, p0, p1, p2, p3, p4, p5, p6]) rfl ?_
    rw [HF.out]
    exact ⟨[.string (tx x1), .string (tx x2), .slice A2 l2.length c2, .slice A3 l3.length c3, .int .i64 (n4 : Int), .int .i64 (n5 : Int), .slice A6 l6.length c6], rfl, H8.out.leave HR2.out HR3.out HR6.out⟩
end Go.Proofs.YtlmeelmjodjfpaaGreatDoor.PB
end
section
namespace Go.Proofs.YtlmeelmjodjfpaaGreatDoor.PB
open Go.RowKit Go.Proofs.YtlmeelmjodjfpaaGreatDoorW.PrintWords Go.Proofs.YtlmeelmjodjfpaaGreatDoorW.PrintLast Go.Proofs.YtlmeelmjodjfpaaGreatDoorW.PrintMore
open Fr (tx tx_list tx_size tx_app)
open Go.Proofs.YtlmeelmjodjfpaaGreatDoor.Op (num numF)
set_option linter.unusedVariables false
set_option linter.unusedSimpArgs false
def one4 (t : St) (l : List S104) : St × List S104 := ((contT t).2, l ++ [(contT t).1])
theorem k104_M_open {w : World} {base : Nat} {ok : Nat → Prop} {c : S104} {cs : List Value} (h : k104.M w base ok c cs) : ∃ A2 c2 A3 c3 A6 c6, cs = [.string c.f0, .string c.f1, .slice A2 c.f2.length c2, .slice A3 c.f3.length c3, .int .i64 c.f4, .int .i64 c.f5, .slice A6 c.f6.length c6] := by
  obtain ⟨_, _, rfl, rfl, ⟨_, _, rfl, rfl, ⟨_, _, rfl, ⟨v2, rfl, h2⟩, ⟨_, _, rfl, ⟨v3, rfl, h3⟩, ⟨_, _, rfl, rfl, ⟨_, _, rfl, rfl, ⟨v6, rfl, h6⟩⟩⟩⟩⟩⟩⟩ := h
  obtain ⟨A2, c2, rfl⟩ := R_slice h2
  obtain ⟨A3, c3, rfl⟩ := R_slice h3
  obtain ⟨A6, c6, rfl⟩ := R_slice h6
  exact ⟨A2, c2, A3, c3, A6, c6, rfl⟩
theorem own_block_lt {α : Type} {d : Kd α} {e : Nat} {w : World} {base : Nat} {ok : Nat → Prop} {v : Value} {l : List α} (h : d.R e w base ok v l) : ∀ k, w.heap.size ≤ k → some k ≠ v.ownBlock :=
  fun k hk he => absurd ((Kd.R_bound h).1 k he.symm).2.2.1 (by omega)
set_option maxHeartbeats 1000000
set_option maxRecDepth 100000
theorem clos4.calls {g cb tb : Nat} {w0 wE : World} {cs : Array Value} (E : CE g cb tb w0 wE) (hcs : 5 < cs.size) (j : Nat) (r : List UInt8) (l : List S104) (w1 : World) (hj : j < 16) (h : ManyI (C1I k104 104 5 92 g cb w0 wE cs) g w0 j ⟨r, 0, false⟩ l w1) :
    Calls Tryz.prog 61 #[.pointer (some ⟨cb, 0, none⟩), .pointer (some ⟨tb, 0, none⟩)] w1 fun x w2 => x = .returned (.tuple #[]) ∧ ManyI (C1I k104 104 5 92 g cb w0 wE cs) g w0 (j + 1) (one4 ⟨r, 0, false⟩ l).1 (one4 ⟨r, 0, false⟩ l).2 w2 := by
  obtain ⟨htk, ⟨hl, v, hC⟩, hbel⟩ := h
  have hT : w1.cell? ⟨tb, 0, none⟩ = some (.pointer (some ⟨g, 0, none⟩)) := E.at hC.mod
  have hV : w1.cell? ⟨cb, 5, none⟩ = some v := by rw [blk_cell hC.blk]; simp [hcs]
  have H := Aside0.mk (And.intro htk (And.intro hC (And.intro hbel hl)))
  have HV := Aside0.mk hV
  have HT := Aside0.mk hT
  have hE := Aside0.mk E
  have cC := container.calls (show TK3 g ⟨r, 0, false⟩ w1.drew from TK3.drew1 htk) (below_drew1 hbel) E.hg
  have HF := Aside0.mk (show one4 ⟨r, 0, false⟩ l = ((contT ⟨r, 0, false⟩).2, l ++ [(contT ⟨r, 0, false⟩).1]) from rfl)
  rw [HF.out]
  generalize (contT ⟨r, 0, false⟩).1 = c at cC ⊢
  generalize (contT ⟨r, 0, false⟩).2 = t2 at cC ⊢
  clear htk hC hbel hl hV hT E HF
  go_enter Tryz.func61, Tryz.ntmps61
  go_wp2_with fail
  refine start_ (n := 8) (S := fun w' => w'.heap[cb]? = some (.cells (cs.setIfInBounds 5 v) 92 (0, 0)) ∧ w'.cell? ⟨cb, 5, none⟩ = some v ∧ w'.cell? ⟨tb, 0, none⟩ = some (.pointer (some ⟨g, 0, none⟩)) ∧ Mod2 g cb wE w' ∧ Below w0.heap.size w0 w') (ds := [7]) #[false, false, false, false, false, false, false, false] (by kernel_rfl) rfl rfl ⟨(show w1.drew.heap[cb]? = _ from H.out.2.1.blk), (cell_below_ (below_drew1 (Below.refl _ _)) HV.out), (cell_below_ (below_drew1 (Below.refl _ _)) HT.out), (H.out.2.1.mod.below (below_drew1 (Below.refl _ _))), (below_drew1 H.out.2.2.1)⟩ (fun hHeld => ?_)
  refine pure_ (i := 0) (N := some 2) (v := ?_) (a' := ?_) #[true, false, false, false, false, false, false, false] rfl rfl (by kernel_rfl) (fun _ _ _ h => h) (Or.inl ⟨by rfl, ?_⟩) ?_ ?_
  rotate_left
  · intro w'
    go_simp
    with_reducible rfl
  rotate_left
  · simp only [Act.put, List.setIfInBounds_toArray, List.set_cons_zero, List.set_cons_succ, i64_w, i32_w]
    rfl
  refine take_ (i := 1) (N := some 3) (v := ?_) (a' := ?_) #[true, true, false, false, false, false, false, false] rfl rfl (by kernel_rfl) (fun _ _ _ h => h) (Or.inl ⟨by rfl, ?_⟩) hHeld ?_ ?_
  rotate_left
  · rintro w' ⟨s0, s1, s2, s3, s4⟩
    go_simp
    with_reducible rfl
  rotate_left
  · simp only [Act.put, List.setIfInBounds_toArray, List.set_cons_zero, List.set_cons_succ, i64_w, i32_w]
    rfl
  refine take_ (i := 2) (N := some 4) (v := ?_) (a' := ?_) #[true, true, true, false, false, false, false, false] rfl rfl (by kernel_rfl) (fun _ _ _ h => h) (Or.inl ⟨by rfl, ?_⟩) hHeld ?_ ?_
  rotate_left
  · rintro w' ⟨s0, s1, s2, s3, s4⟩
    go_simp
    with_reducible rfl
  rotate_left
  · simp only [Act.put, List.setIfInBounds_toArray, List.set_cons_zero, List.set_cons_succ, i64_w, i32_w]
    rfl
  refine one_ (i := 3) (N := some 5) #[true, true, true, true, false, false, false, false] rfl rfl (by kernel_rfl) (by decide) (fun K hK => ?_)
  refine goes_ Tryz.func62 (by kernel_rfl) rfl #[.pointer (some ⟨g, 0, none⟩)] (by rfl) rfl rfl (by simp only [List.map_toArray, List.map_cons, List.map_nil]; rfl) ?_
  with_reducible refine (cC).mono ?_
  rintro x w3 ⟨ccs, rfl, hM, hkT, hkB, hkK⟩
  refine ⟨_, rfl, ?_⟩
  obtain ⟨A2, c2, A3, c3, A6, c6, rfl⟩ := k104_M_open hM
  have HM := Aside0.mk hM
  have HK := Aside0.mk (And.intro hkT (And.intro hkB (show KeepBut w1 w3 g none from hkK)))
  refine hK.out _ _ ⟨hkK.blk hHeld.1 hE.out.cg (by simp), keep_cell hkK hHeld.2.1 hE.out.cg, keep_cell hkK hHeld.2.2.1 hE.out.tg, hHeld.2.2.2.1.keep hkK, hkB⟩ (fun hNow => ?_)
  clear hK K hHeld
  have hHeld := hNow
  clear hNow
  refine norm_ (a' := ?_) ?_ ?_
  rotate_left
  · show Act.put _ (some 5) _ = _
    simp only [Act.put, List.setIfInBounds_toArray, List.set_cons_zero, List.set_cons_succ, i64_w, i32_w]
    rfl
  refine one_ (i := 4) (N := some 6) #[true, true, true, true, true, false, false, false] rfl rfl (by kernel_rfl) (by decide) (fun K hK => ?_)
  have HS3 := Aside0.mk hHeld
  have HR3 := Aside0.mk (Kd.R_keep H.out.2.1.row (g := g) HK.out.2.2 (fun k hk2 => by have := hE.out.gl; omega))
  refine value_ (w1 := ?_) (v := ?_) (by rfl) rfl ?_ ?_
  rotate_left 2
  · go_simp
    constructor
    · rfl
    · rfl
  refine hK.out _ _ ⟨blk_alloc hHeld.1 _, cell_below_ (below_alloc (Below.refl _ _) _) hHeld.2.1, cell_below_ (below_alloc (Below.refl _ _) _) hHeld.2.2.1, hHeld.2.2.2.1.below (below_alloc (Below.refl _ _) _), below_alloc hHeld.2.2.2.2 _⟩ (fun hNow => ?_)
  clear hK K hHeld
  have hHeld := hNow
  clear hNow
  refine norm_ (a' := ?_) ?_ ?_
  rotate_left
  · show Act.put _ (some 6) _ = _
    simp only [Act.put, List.setIfInBounds_toArray, List.set_cons_zero, List.set_cons_succ, i64_w, i32_w]
    rfl
  refine one_ (i := 5) (N := some 7) #[true, true, true, true, true, true, false, false] rfl rfl (by kernel_rfl) (by decide) (fun K hK => ?_)
  refine Kd.R_append_step k104 (w0 := w0) w0.heap.size rfl (.tmp 3) (.tmp 6) 90 104 (.agg #[.string ⟨#[]⟩, .string ⟨#[]⟩, .slice none 0 0, .slice none 0 0, .int .i64 0, .int .i64 0, .slice none 0 0]) 120 (by rfl) Tryz.underlying90 info104 rfl (by decide) (by decide) v l c [.string c.f0, .string c.f1, .slice A2 c.f2.length c2, .slice A3 c.f3.length c3, .int .i64 c.f4, .int .i64 c.f5, .slice A6 c.f6.length c6] (fun k => wE.heap.size ≤ k) (fun k => w1.heap.size ≤ k) rfl rfl HM.out (fun k hk => ⟨Nat.le_trans H.out.2.1.mod.1 hk, own_block_lt H.out.2.1.row k hk⟩) (fun k hk => Nat.le_trans HS3.out.2.2.2.1.1 hk) HR3.out HS3.out.2.2.2.2 HS3.out.2.2.2.2.size (by have := H.out.2.2.2; omega) ?_
  intro v1 w5 hr5 hb5 hg5 hat5
  obtain ⟨gb, cap, rfl⟩ := R_form hr5 (by simp)
  refine hK.out _ _ ⟨blk_grown HS3.out.1 hg5 (own_far HR3.out cb hE.out.cl), (World.cell?_of_block (w := _) (hg5.block cb (blk_lt HS3.out.1) (own_far HR3.out cb hE.out.cl))).trans HS3.out.2.1, (World.cell?_of_block (w := _) (hg5.block tb (Nat.lt_of_lt_of_le (blk_lt hE.out.tp) HS3.out.2.2.2.1.1) (own_far HR3.out tb (blk_lt hE.out.tp)))).trans HS3.out.2.2.1, HS3.out.2.2.2.1.grown hg5 (own_far HR3.out), hb5⟩ (fun hNow => ?_)
  clear hK K hHeld
  have hHeld := hNow
  clear hNow
  refine norm_ (a' := ?_) ?_ ?_
  rotate_left
  · show Act.put _ (some 7) _ = _
    simp only [Act.put, List.setIfInBounds_toArray, List.set_cons_zero, List.set_cons_succ, i64_w, i32_w]
    rfl
  refine pure_ (i := 6) (N := some 8) (v := ?_) (a' := ?_) #[true, true, true, true, true, true, true, false] rfl rfl (by kernel_rfl) (fun _ _ _ h => h) (Or.inl ⟨by rfl, ?_⟩) ?_ ?_
  rotate_left
  · intro w'
    go_simp
    with_reducible rfl
  rotate_left
  · simp only [Act.put, List.setIfInBounds_toArray, List.set_cons_zero, List.set_cons_succ, i64_w, i32_w]
    rfl
  refine last_ (i := 7) (N := none) #[true, true, true, true, true, true, true, true] rfl rfl (by kernel_rfl) (by decide) (fun K hK => ?_)
  have fz := blk_frozen hHeld.1 5
  refine skip_ (w1 := ?_) (by rfl) rfl ?_ ?_
  rotate_left
  · go_simp
    rfl
  refine hK.out _ _ ?_
  clear hK K
  refine done_ (by kernel_rfl) ?_
  clear hHeld
  have H9 := Aside0.mk (And.intro hr5 (And.intro hb5 (And.intro hg5 hat5)))
  clear hr5 hb5 hg5 hat5
  go_wp2_with fail
  go_end0
  refine ⟨rfl, ?_, ⟨by simp; have := H.out.2.2.2; omega, .slice (some ⟨gb, 0, none⟩) (l.length + 1) cap, ?_, ?_, ?_⟩, ?_⟩
  · exact blk_far (blk_grown HK.out.1 H9.out.2.2.1 (own_far HR3.out g hE.out.gl)) (Ne.symm hE.out.cg) _
  · refine blk_put (blk_grown HS3.out.1 H9.out.2.2.1 (own_far HR3.out cb hE.out.cl)) 5 _ (by simp)
  · have h8 := H9.out.1
    rw [List.length_append, List.length_singleton] at h8
    exact Kd.R_far h8 (fun k hk => by have := hE.out.cl; show k ≠ cb; omega) _
  · exact (HS3.out.2.2.2.1.grown H9.out.2.2.1 (own_far HR3.out)).set _ _
  · exact H9.out.2.1.setCell hE.out.hc _
end Go.Proofs.YtlmeelmjodjfpaaGreatDoor.PB
end
