/- CkptBursts, part 7 of 24 of its proof: for every input that meets the row's condition (laid, tied) the call returns true and each argument reads behind it as before. -/
import Derived.Maps.OwnOps
import Derived.Maps.Views
import Derived.WideKeyEntry
import Derived.DeepKeys4
import Derived.StringKeys
import Derived.Test.YtlmeelmjodjfpaaGreatDoorG02
import Derived.Test.YtlmeelmjodjfpaaGreatDoorG03
section
namespace Go.Proofs.YtlmeelmjodjfpaaGreatDoor.PB
open Go.RowKit Go.Maps Go.WideShapes Go.MapKept Go.Proofs.YtlmeelmjodjfpaaGreatDoorW.PrintWords Go.Proofs.YtlmeelmjodjfpaaGreatDoorW.PrintLast Go.Proofs.YtlmeelmjodjfpaaGreatDoorW.PrintMore
set_option linter.unusedVariables false
instance : DecidableEq S160 := fun a b => by
  cases a; cases b
  simp only [S160.mk.injEq]
  exact inferInstance
/-- What the laws ask of a map's type T, of keys of type K that hold x as enc x. -/
structure CntLaw {α : Type} (T K : TypeId) (enc : α → Value) (kl : α → Lit) (ok : α → Prop) : Prop where
  hT : Tryz.prog.underlying T = some (.map K 3)
  keyed : Keyed Tryz.prog K
  key : ∀ x, ok x → keyOf Tryz.prog K (enc x) = some (kl x)
  inj : ∀ x y, enc x = enc y → x = y
theorem CntLaw.ne {α : Type} {T K : TypeId} {enc : α → Value} {kl : α → Lit} {ok : α → Prop} (L : CntLaw T K enc kl ok) {x y : α} (hx : ok x) (hy : ok y) (h : x ≠ y) : kl x ≠ kl y := fun e =>
  h (L.inj x y (L.keyed.inj (L.key x hx) (e ▸ L.key y hy)))
/-- How often a key has come. -/
def cntOf {α : Type} [DecidableEq α] (ks : List α) (x : α) : Nat := ks.count x
theorem cntOf_nil {α : Type} [DecidableEq α] (x : α) : cntOf [] x = 0 := rfl
theorem cntOf_le {α : Type} [DecidableEq α] (ks : List α) (x : α) : cntOf ks x ≤ ks.length := List.count_le_length
/-- Block b is a map of at most n entries that says how often each key has come among ks. -/
structure Cnt {α : Type} [DecidableEq α] (K : TypeId) (kl : α → Lit) (ok : α → Prop) (b n : Nat) (ks : List α) (w : World) : Prop where
  out : ∃ D : DataW Unit, w.ownsMap Tryz.prog K (plainElem Tryz.prog 3) b n D ∧ IsMap D ∧ ∀ x, ok x → D.atKey (kl x) (.lit (.int .i64 0)) = .lit (.int .i64 ((cntOf ks x : Nat) : Int))
section
variable {α : Type} [DecidableEq α] {T K : TypeId} {enc : α → Value} {kl : α → Lit} {ok : α → Prop} {b n : Nat} {ks : List α} {w : World}
theorem Cnt.start (w : World) : Cnt K kl ok w.heap.size 0 ([] : List α) (w.alloc (.map #[] 0)) :=
  ⟨.map [], World.ownsMap_made _ _ _ _, isMap_empty, fun x _ => by simp [DataW.atKey, cntOf_nil]⟩
theorem Cnt.kept (h : Cnt K kl ok b n ks w) {w' : World} {row : Option Nat} (hg : w.grownBy w' row) (hne : some b ≠ row) : Cnt K kl ok b n ks w' := by
  obtain ⟨D, h1, h2, h3⟩ := h.out
  exact ⟨D, h1.kept hg hne, h2, h3⟩
theorem Cnt.lt (h : Cnt K kl ok b n ks w) : b < w.heap.size := by
  obtain ⟨D, h1, _, _⟩ := h.out
  exact h1.lt
theorem Cnt.later (h : Cnt K kl ok b n ks w) {w' : World} (hb : Below w.heap.size w w') : Cnt K kl ok b n ks w' :=
  h.kept (row := none) ⟨hb.os, hb.tape, hb.output, hb.size, fun i hi _ => hb.block i hi⟩ (by simp)
theorem Cnt.look (h : Cnt K kl ok b n ks w) (L : CntLaw T K enc kl ok) {x : α} (hx : ok x) :
    (Instr.lookup T (.map (some b)) (enc x) false).run Tryz.prog w = .ok (.int .i64 ((cntOf ks x : Nat) : Int)) w := by
  obtain ⟨D, h1, h2, h3⟩ := h.out
  obtain ⟨c, hrun, hat, _⟩ := h1.lookup_int L.keyed L.hT Tryz.underlying3 (Tryz.zeroValue3 w) (L.key x hx)
  rw [h3 x hx] at hat
  cases hat
  exact hrun
theorem count_snoc (ks : List α) (x y : α) : cntOf (ks ++ [x]) y = cntOf ks y + (if y = x then 1 else 0) := by
  unfold cntOf
  rw [List.count_append, List.count_singleton]
  by_cases h : y = x
  · subst h; simp
  · simp [h, Ne.symm h]
theorem Cnt.update (h : Cnt K kl ok b n ks w) (L : CntLaw T K enc kl ok) (hkl : ∀ x, ok x → WideAt.IsKeyLit (kl x)) (hn : n < maxLen) {x : α} (hx : ok x) {c : Int} (hc : c = ((cntOf ks x : Nat) : Int) + 1) (hw : (Lit.int .i64 c).wf = true) :
    ∃ w', (Instr.mapUpdate T (.map (some b)) (enc x) (.int .i64 c)).run Tryz.prog w = .ok () w' ∧ Cnt K kl ok b (n + 1) (ks ++ [x]) w' ∧ w.grownBy w' (some b) := by
  obtain ⟨D, h1, h2, h3⟩ := h.out
  obtain ⟨w', hrun, hown, hg⟩ := h1.update L.keyed L.hT hn (L.key x hx) (plainElem_int Tryz.underlying3 hw)
  refine ⟨w', hrun, ⟨_, hown, h2.put _ _, fun y hy => ?_⟩, hg⟩
  by_cases e : y = x
  · subst e
    rw [atKey_put_same h2 (hkl y hy), hc, count_snoc, if_pos rfl]; rfl
  · rw [atKey_put_other (L.ne hy hx e), h3 y hy, count_snoc, if_neg e]; rfl
end
theorem Cnt.entry {α : Type} [DecidableEq α] {T K : TypeId} {enc : α → Value} {kl : α → Lit} {ok : α → Prop} {b n : Nat} {ks : List α} {w : World} (h : Cnt K kl ok b n ks w) (L : CntLaw T K enc kl ok) (KL : WideMaps.KeyLaw Tryz.prog K) (hkl : ∀ x, ok x → WideAt.IsKeyLit (kl x)) (hn : n < maxLen) {x : α} (hx : ok x) {c : Int} (hc : c = ((cntOf ks x : Nat) : Int) + 1) (hw : (Lit.int .i64 c).wf = true) :
    ∃ (w1 w2 : World) (st : Nat) (v0 : Value), (Instr.mapEntry T (.map (some b)) (enc x)).run Tryz.prog w = .ok (.tuple #[v0, goInt st]) w1 ∧
      (Instr.lookup T (.map (some b)) (enc x) false).run Tryz.prog w1 = .ok (.int .i64 ((cntOf ks x : Nat) : Int)) w1 ∧
      (Instr.entryStore T (.map (some b)) (goInt st) (.int .i64 c)).run Tryz.prog w1 = .ok () w2 ∧
      w.grownBy w1 (some b) ∧ Cnt K kl ok b (n + 1) (ks ++ [x]) w2 ∧ w.grownBy w2 (some b) := by
  obtain ⟨D, h1, h2, h3⟩ := h.out
  obtain ⟨w2, hrun, hown, hg⟩ := h1.update L.keyed L.hT hn (L.key x hx) (plainElem_int Tryz.underlying3 hw)
  have hC : Cnt K kl ok b (n + 1) (ks ++ [x]) w2 := ⟨_, hown, h2.put _ _, fun y hy => by
    by_cases e : y = x
    · subst e; rw [atKey_put_same h2 (hkl y hy), hc, count_snoc, if_pos rfl]; rfl
    · rw [atKey_put_other (L.ne hy hx e), h3 y hy, count_snoc, if_neg e]; rfl⟩
  have hl := h.look L hx
  have h1' := h1
  obtain ⟨es, clock, hb, F, hs, hD⟩ := h1'
  obtain ⟨v0, st, es1, clock1, he, hcase, hst⟩ := WideElems.entry_then_store KL L.hT (z := .int .i64 0) Tryz.zeroValue3 hb F (L.key x hx)
  have hb1 : (ChangeMaps.setBlock w b (.map es1 clock1)).heap[b]? = some (.map es1 clock1) := ChangeMaps.heap_setBlock_same hb _
  obtain ⟨es', clock', hs1, hs2⟩ := hst _ (.int .i64 c) hb1
  have e2 : w2 = ChangeMaps.setBlock w b (.map es' clock') := by
    rw [hrun] at hs2; injection hs2
  have e3 : ChangeMaps.setBlock (ChangeMaps.setBlock w b (.map es1 clock1)) b (.map es' clock') = ChangeMaps.setBlock w b (.map es' clock') := by
    simp [ChangeMaps.setBlock]
  refine ⟨_, w2, st, v0, he, ?_, by rw [hs1, e3, e2], ?_, hC, hg⟩
  · rcases KL.find w (L.key x hx) es.toList F.keys with ⟨g1, g2⟩ | ⟨j, e0, g1, g2, g3⟩
    · have hX : (Instr.mapEntry T (.map (some b)) (enc x)).run Tryz.prog w = .ok (.tuple #[.int .i64 0, goInt clock]) (ChangeMaps.setBlock w b (.map (es.push ⟨enc x, .int .i64 0, clock⟩) (clock + 1))) := by
        simp [Instr.mapEntry, run_underlying L.hT, MapKept.run_getObj_map hb, KL.check w false (L.key x hx), g1, Tryz.zeroValue3, MapKept.run_setObj_map _ hb, Result.andThen, ChangeMaps.setBlock]
      have hU : (Instr.mapUpdate T (.map (some b)) (enc x) (.int .i64 0)).run Tryz.prog w = .ok () (ChangeMaps.setBlock w b (.map (es.push ⟨enc x, .int .i64 0, clock⟩) (clock + 1))) := by
        simp [Instr.mapUpdate, run_underlying L.hT, MapKept.run_getObj_map hb, KL.check w false (L.key x hx), g1, MapKept.run_setObj_map _ hb, Result.andThen, ChangeMaps.setBlock]
      obtain ⟨w0, hrun0, hown0, _⟩ := h1.update L.keyed L.hT hn (L.key x hx) (plainElem_int Tryz.underlying3 (q := .i64) (a := 0) (by decide))
      replace hrun0 := hU.symm.trans hrun0
      have he2 := hX.symm.trans he
      have ew : w0 = ChangeMaps.setBlock w b (.map es1 clock1) := by
        rw [Result.ok.injEq] at hrun0 he2
        exact hrun0.2.symm.trans he2.2
      rw [← ew]
      obtain ⟨c0, hl0, hat0, _⟩ := hown0.lookup_int L.keyed L.hT Tryz.underlying3 (Tryz.zeroValue3 w0) (L.key x hx)
      rw [atKey_put_same h2 (hkl x hx)] at hat0
      cases hat0
      rcases Maps.fit_look false L.keyed L.hT (Tryz.zeroValue3 w) hb F (L.key x hx) with ⟨_, _, hz⟩ | ⟨e0, _, m0, k0, _⟩
      · have hq := h3 x hx
        rw [hD, hz] at hq
        cases hk : cntOf ks x with
        | zero => exact hl0
        | succ m => rw [hk, DataW.lit.injEq, Lit.int.injEq] at hq; omega
      · exact absurd k0 (g2 e0 m0)
    · have hj : es[j]? = some e0 := by simpa using g2
      have hsame : es.modify j (fun e => { e with key := enc x }) = es := by
        apply Array.ext'
        rw [Array.toList_modify, ChangeMaps.modify_eq_set _ _ _ _ g2]
        have : ({ e0 with key := enc x } : MapEntry) = e0 := by rw [← g3]
        rw [this]
        exact WideElems.set_self _ _ _ g2
      have hX : (Instr.mapEntry T (.map (some b)) (enc x)).run Tryz.prog w = .ok (.tuple #[e0.val, goInt e0.born]) (ChangeMaps.setBlock w b (.map es clock)) := by
        simp [Instr.mapEntry, run_underlying L.hT, MapKept.run_getObj_map hb, KL.check w false (L.key x hx), g1, hj, g3, KL.stays w (L.key x hx), hsame, MapKept.run_setObj_map _ hb, Result.andThen, ChangeMaps.setBlock]
      have he2 := hX.symm.trans he
      have ew : ChangeMaps.setBlock w b (.map es clock) = ChangeMaps.setBlock w b (.map es1 clock1) := by rw [Result.ok.injEq] at he2; exact he2.2
      rw [← ew]
      have hC0 : Cnt K kl ok b n ks (ChangeMaps.setBlock w b (.map es clock)) := ⟨D, ⟨es, clock, ChangeMaps.heap_setBlock_same hb _, F, hs, hD⟩, h2, h3⟩
      exact hC0.look L hx
  · exact ⟨rfl, rfl, rfl, by simp [ChangeMaps.setBlock], fun i _ hi => ChangeMaps.heap_setBlock_other hb _ (fun e => hi (by rw [e]))⟩
def klS (s : ByteArray) : Lit := .string s.data.toList
def okS (s : ByteArray) : Prop := s.size ≤ maxLen
theorem lawS : CntLaw 198 9 Value.string klS okS := {
  hT := Tryz.underlying198
  keyed := string_keyed Tryz.underlying9
  key := fun x hx => WideMaps.keyOf_string_mk Tryz.underlying9 hx
  inj := fun x y h => by cases h; rfl }
theorem isKeyS (s : ByteArray) (h : okS s) : WideAt.IsKeyLit (klS s) := lawS.keyed.key (lawS.key s h)
def encP (p : S160) : Value := .agg #[.int .i64 p.f0, .int .i64 p.f1]
def klP (p : S160) : Lit := .string (keyBytes [.int .i64 p.f0, .int .i64 p.f1])
def okP (p : S160) : Prop := (Lit.int .i64 p.f0).wf = true ∧ (Lit.int .i64 p.f1).wf = true
theorem keyP (p : S160) (h : okP p) : keyOf Tryz.prog 160 (encP p) = some (klP p) := by
  have hk : Tryz.prog.keyType 160 = true := by kernel_rfl
  have hc : Tryz.prog.cellsOf 160 = 2 := by kernel_rfl
  have hc2 : Tryz.prog.cellsOf 2 = 1 := by kernel_rfl
  have hc8 : Tryz.prog.cellsOf 158 = 1 := by kernel_rfl
  have hf : (encP p).formed Tryz.prog 160 = true := by simp [encP, Value.formed, Tryz.underlying160, hc]
  have hd : ∃ d, Tryz.prog.types.size = d + 1 := ⟨Tryz.prog.types.size - 1, by
    have : 0 < Tryz.prog.types.size := of_decide_eq_true (by kernel_rfl)
    omega⟩
  obtain ⟨d, hd⟩ := hd
  unfold keyOf
  rw [Tryz.underlying160]
  simp only [hk, hf, Bool.and_self, if_true]
  rw [hd]
  have hcl : (encP p).cells.toList = [.int .i64 p.f0, .int .i64 p.f1] := rfl
  rw [hcl]
  simp [Program.keyLits, Tryz.underlying160, Tryz.underlying2, Tryz.underlying158, hc, hc2, hc8, h.1, h.2, klP]
theorem keyLawP : WideMaps.KeyLaw Tryz.prog 160 := deep_law_laid (m := 2) (by kernel_rfl) (by omega) (of_decide_eq_true (by kernel_rfl)) (by kernel_rfl) (by rw [Tryz.underlying160])
theorem lawP : CntLaw 218 160 encP klP okP := {
  hT := Tryz.underlying218
  keyed := Keyed.of_law keyLawP
  key := keyP
  inj := fun x y h => by cases x; cases y; simp [encP] at h; simp [h] }
theorem isKeyP (p : S160) (h : okP p) : WideAt.IsKeyLit (klP p) := lawP.keyed.key (lawP.key p h)
end Go.Proofs.YtlmeelmjodjfpaaGreatDoor.PB
end
section
namespace Go.Proofs.YtlmeelmjodjfpaaGreatDoor.PB
open Go.RowKit Go.Proofs.YtlmeelmjodjfpaaGreatDoorW.PrintWords Go.Proofs.YtlmeelmjodjfpaaGreatDoorW.PrintLast Go.Proofs.YtlmeelmjodjfpaaGreatDoorW.PrintMore
attribute [local go_sem] max2_int min2_int max_two min_two max_three min_three max_four min_four   -- for this text's walks alone
set_option linter.unusedVariables false
set_option linter.unusedSimpArgs false
def ckone_File.l0 : Nat → ByteArray → Int → Int → Option (Bool)
  | 0, _, _, _ => none
  | k + 1, x0, x6, x7 => if x7 < x6 then (if 0 ≤ x7 then (if x7 < (x0.size : Int) then (if (bt x0 x7) < 97 then (if (bt x0 x7) < 48 then ((strings_IndexByte.f (⟨#[46, 95, 45, 47]⟩ : ByteArray) (bt x0 x7)).bind fun t101 => (if t101 < 0 then (some false) else (ckone_File.l0 k x0 x6 (wrap64 (x7 + 1))))) else (if (bt x0 x7) > 57 then ((strings_IndexByte.f (⟨#[46, 95, 45, 47]⟩ : ByteArray) (bt x0 x7)).bind fun t102 => (if t102 < 0 then (some false) else (ckone_File.l0 k x0 x6 (wrap64 (x7 + 1))))) else (ckone_File.l0 k x0 x6 (wrap64 (x7 + 1))))) else (if (bt x0 x7) > 122 then (if (bt x0 x7) < 48 then ((strings_IndexByte.f (⟨#[46, 95, 45, 47]⟩ : ByteArray) (bt x0 x7)).bind fun t103 => (if t103 < 0 then (some false) else (ckone_File.l0 k x0 x6 (wrap64 (x7 + 1))))) else (if (bt x0 x7) > 57 then ((strings_IndexByte.f (⟨#[46, 95, 45, 47]⟩ : ByteArray) (bt x0 x7)).bind fun t104 => (if t104 < 0 then (some false) else (ckone_File.l0 k x0 x6 (wrap64 (x7 + 1))))) else (ckone_File.l0 k x0 x6 (wrap64 (x7 + 1))))) else (ckone_File.l0 k x0 x6 (wrap64 (x7 + 1))))) else (none)) else (none)) else (if x0.toList = ([] : List UInt8) then (some false) else (some (decide ((x0.size : Int) ≤ 64))))
def ckone_File.f (k : Nat) (a0 : ByteArray) : Option (Bool) := ckone_File.l0 k a0 (a0.size : Int) 0
set_option maxHeartbeats 8000000 in
set_option maxRecDepth 100000 in
theorem ckone_File.calls (k : Nat) (a0 : ByteArray) (r : Bool) (w : World) (h : ckone_File.f k a0 = some r) :
    Calls Tryz.prog 90 #[.string a0] w fun e w' => e = .returned (.bool r) ∧ Drawn0 w w' := by
  have H : (ckone_File.l0 k a0 (a0.size : Int) 0) = some r := h
  clear h
  have H' := Aside0.mk H
  clear H
  go_enter Tryz.func90, Tryz.ntmps90
  go_wp2
  go_loopg [7] k (fun kq v7 w' => ∃ (x7_1 : Int), v7 = .int .i64 x7_1 ∧ Aside0 (ckone_File.l0 kq a0 (a0.size : Int) x7_1 = some r) ∧ Aside0 (kq ≤ k) ∧ Drawn0 w w')
  case atStart => exact ⟨(0), (by first | rfl | (simp; done) | (simp [*]; done)), H', ⟨Nat.le_refl _⟩, by repeat (first | exact Drawn0.refl _ | apply Drawn0.step)⟩
  case round =>
    clear H'
    obtain ⟨x7_1, rfl, HA, HK1, ⟨m1, rfl⟩⟩ := hrel
    cases gk with
    | zero => exact absurd HA.out (by simp [ckone_File.l0])
    | succ k1 =>
      have H := HA.out
      clear HA
      simp only [ckone_File.l0] at H
      by_cases c2 : x7_1 < (a0.size : Int)
      · rw [if_pos c2] at H
        have c2b0 : decide (x7_1 < (a0.size : Int)) = true := decide_eq_true c2
        clear c2
        by_cases c3 : 0 ≤ x7_1
        · rw [if_pos c3] at H
          have c3b0 : decide (0 ≤ x7_1) = true := decide_eq_true c3
          clear c3
          by_cases c4 : x7_1 < (a0.size : Int)
          · rw [if_pos c4] at H
            have c4b0 : decide (x7_1 < (a0.size : Int)) = true := decide_eq_true c4
            clear c4
            by_cases c6 : (bt a0 x7_1) < 97
            · rw [if_pos c6] at H
              have c6b0 : decide ((bt a0 x7_1) < 97) = true := decide_eq_true c6
              clear c6
              by_cases c7 : (bt a0 x7_1) < 48
              · rw [if_pos c7] at H
                have c7b0 : decide ((bt a0 x7_1) < 48) = true := decide_eq_true c7
                clear c7
                replace H := Option.bind_eq_some_iff.mp H
                obtain ⟨t101, A80, H⟩ := H
                replace H : (if t101 < 0 then (some false) else (ckone_File.l0 k1 a0 (a0.size : Int) (wrap64 (x7_1 + 1)))) = some r := H
                have A8 := Aside0.mk A80
                clear A80
                by_cases c9 : t101 < 0
                · rw [if_pos c9] at H
                  have c9b0 : decide (t101 < 0) = true := decide_eq_true c9
                  clear c9
                  obtain rfl := Option.some.inj H
                  have p5 : 0 ≤ (x7_1 : Int) := of_decide_eq_true (by first | (with_reducible assumption) | assumption)
                  have q5 : x7_1 < (a0.size : Int) := of_decide_eq_true (by first | (with_reducible assumption) | assumption)
                  have hx5 := bt_at a0 x7_1
                  replace p5 := eq_true p5
                  replace q5 := eq_true q5
                  go_wp2_with (first | (go_at_call 115; (with_reducible refine (strings_IndexByte.calls (⟨#[46, 95, 45, 47]⟩ : ByteArray) (bt a0 x7_1) t101 _ A8.out).mono ?_); rintro e w' ⟨rfl, ⟨nd, rfl⟩⟩))
                  go_ret
                  exact ⟨by first | rfl | (simp; done) | (simp [*]; done), by repeat (first | exact Drawn0.refl _ | apply Drawn0.step)⟩
                · rw [if_neg c9] at H
                  have c9b0 : decide (t101 < 0) = false := decide_eq_false c9
                  clear c9
                  have H' := Aside0.mk H
                  clear H
                  have p5 : 0 ≤ (x7_1 : Int) := of_decide_eq_true (by first | (with_reducible assumption) | assumption)
                  have q5 : x7_1 < (a0.size : Int) := of_decide_eq_true (by first | (with_reducible assumption) | assumption)
                  have hx5 := bt_at a0 x7_1
                  replace p5 := eq_true p5
                  replace q5 := eq_true q5
                  go_wp2_with (first | (go_at_call 115; (with_reducible refine (strings_IndexByte.calls (⟨#[46, 95, 45, 47]⟩ : ByteArray) (bt a0 x7_1) t101 _ A8.out).mono ?_); rintro e w' ⟨rfl, ⟨nd, rfl⟩⟩))
                  go_roundg k1
                  case measure => have := HK1.out; omega
                  case rel => exact ⟨(wrap64 (x7_1 + 1)), (by first | rfl | (simp; done) | (simp [*]; done)), H', ⟨by have := HK1.out; omega⟩, by repeat (first | exact Drawn0.refl _ | apply Drawn0.step)⟩
              · rw [if_neg c7] at H
                have c7b0 : decide ((bt a0 x7_1) < 48) = false := decide_eq_false c7
                clear c7
                by_cases c10 : (bt a0 x7_1) > 57
                · rw [if_pos c10] at H
                  have c10b0 : decide (57 < (bt a0 x7_1)) = true := decide_eq_true c10
                  clear c10
                  replace H := Option.bind_eq_some_iff.mp H
                  obtain ⟨t102, A110, H⟩ := H
                  replace H : (if t102 < 0 then (some false) else (ckone_File.l0 k1 a0 (a0.size : Int) (wrap64 (x7_1 + 1)))) = some r := H
                  have A11 := Aside0.mk A110
                  clear A110
                  by_cases c12 : t102 < 0
                  · rw [if_pos c12] at H
                    have c12b0 : decide (t102 < 0) = true := decide_eq_true c12
                    clear c12
                    obtain rfl := Option.some.inj H
                    have p5 : 0 ≤ (x7_1 : Int) := of_decide_eq_true (by first | (with_reducible assumption) | assumption)
                    have q5 : x7_1 < (a0.size : Int) := of_decide_eq_true (by first | (with_reducible assumption) | assumption)
                    have hx5 := bt_at a0 x7_1
                    replace p5 := eq_true p5
                    replace q5 := eq_true q5
                    go_wp2_with (first | (go_at_call 115; (with_reducible refine (strings_IndexByte.calls (⟨#[46, 95, 45, 47]⟩ : ByteArray) (bt a0 x7_1) t102 _ A11.out).mono ?_); rintro e w' ⟨rfl, ⟨nd, rfl⟩⟩))
                    go_ret
                    exact ⟨by first | rfl | (simp; done) | (simp [*]; done), by repeat (first | exact Drawn0.refl _ | apply Drawn0.step)⟩
                  · rw [if_neg c12] at H
                    have c12b0 : decide (t102 < 0) = false := decide_eq_false c12
                    clear c12
                    have H' := Aside0.mk H
                    clear H
                    have p5 : 0 ≤ (x7_1 : Int) := of_decide_eq_true (by first | (with_reducible assumption) | assumption)
                    have q5 : x7_1 < (a0.size : Int) := of_decide_eq_true (by first | (with_reducible assumption) | assumption)
                    have hx5 := bt_at a0 x7_1
                    replace p5 := eq_true p5
                    replace q5 := eq_true q5
                    go_wp2_with (first | (go_at_call 115; (with_reducible refine (strings_IndexByte.calls (⟨#[46, 95, 45, 47]⟩ : ByteArray) (bt a0 x7_1) t102 _ A11.out).mono ?_); rintro e w' ⟨rfl, ⟨nd, rfl⟩⟩))
                    go_roundg k1
                    case measure => have := HK1.out; omega
                    case rel => exact ⟨(wrap64 (x7_1 + 1)), (by first | rfl | (simp; done) | (simp [*]; done)), H', ⟨by have := HK1.out; omega⟩, by repeat (first | exact Drawn0.refl _ | apply Drawn0.step)⟩
                · rw [if_neg c10] at H
                  have c10b0 : decide (57 < (bt a0 x7_1)) = false := decide_eq_false c10
                  clear c10
                  have H' := Aside0.mk H
                  clear H
                  have p5 : 0 ≤ (x7_1 : Int) := of_decide_eq_true (by first | (with_reducible assumption) | assumption)
                  have q5 : x7_1 < (a0.size : Int) := of_decide_eq_true (by first | (with_reducible assumption) | assumption)
                  have hx5 := bt_at a0 x7_1
                  replace p5 := eq_true p5
                  replace q5 := eq_true q5
                  go_wp2
                  go_roundg k1
                  case measure => have := HK1.out; omega
                  case rel => exact ⟨(wrap64 (x7_1 + 1)), (by first | rfl | (simp; done) | (simp [*]; done)), H', ⟨by have := HK1.out; omega⟩, by repeat (first | exact Drawn0.refl _ | apply Drawn0.step)⟩
            · rw [if_neg c6] at H
              have c6b0 : decide ((bt a0 x7_1) < 97) = false := decide_eq_false c6
              clear c6
              by_cases c13 : (bt a0 x7_1) > 122
              · rw [if_pos c13] at H
                have c13b0 : decide (122 < (bt a0 x7_1)) = true := decide_eq_true c13
                clear c13
                by_cases c14 : (bt a0 x7_1) < 48
                · rw [if_pos c14] at H
                  have c14b0 : decide ((bt a0 x7_1) < 48) = true := decide_eq_true c14
                  clear c14
                  replace H := Option.bind_eq_some_iff.mp H
                  obtain ⟨t103, A150, H⟩ := H
                  replace H : (if t103 < 0 then (some false) else (ckone_File.l0 k1 a0 (a0.size : Int) (wrap64 (x7_1 + 1)))) = some r := H
                  have A15 := Aside0.mk A150
                  clear A150
                  by_cases c16 : t103 < 0
                  · rw [if_pos c16] at H
                    have c16b0 : decide (t103 < 0) = true := decide_eq_true c16
                    clear c16
                    obtain rfl := Option.some.inj H
                    have p5 : 0 ≤ (x7_1 : Int) := of_decide_eq_true (by first | (with_reducible assumption) | assumption)
                    have q5 : x7_1 < (a0.size : Int) := of_decide_eq_true (by first | (with_reducible assumption) | assumption)
                    have hx5 := bt_at a0 x7_1
                    replace p5 := eq_true p5
                    replace q5 := eq_true q5
                    go_wp2_with (first | (go_at_call 115; (with_reducible refine (strings_IndexByte.calls (⟨#[46, 95, 45, 47]⟩ : ByteArray) (bt a0 x7_1) t103 _ A15.out).mono ?_); rintro e w' ⟨rfl, ⟨nd, rfl⟩⟩))
                    go_ret
                    exact ⟨by first | rfl | (simp; done) | (simp [*]; done), by repeat (first | exact Drawn0.refl _ | apply Drawn0.step)⟩
                  · rw [if_neg c16] at H
                    have c16b0 : decide (t103 < 0) = false := decide_eq_false c16
                    clear c16
                    have H' := Aside0.mk H
                    clear H
                    have p5 : 0 ≤ (x7_1 : Int) := of_decide_eq_true (by first | (with_reducible assumption) | assumption)
                    have q5 : x7_1 < (a0.size : Int) := of_decide_eq_true (by first | (with_reducible assumption) | assumption)
                    have hx5 := bt_at a0 x7_1
                    replace p5 := eq_true p5
                    replace q5 := eq_true q5
                    go_wp2_with (first | (go_at_call 115; (with_reducible refine (strings_IndexByte.calls (⟨#[46, 95, 45, 47]⟩ : ByteArray) (bt a0 x7_1) t103 _ A15.out).mono ?_); rintro e w' ⟨rfl, ⟨nd, rfl⟩⟩))
                    go_roundg k1
                    case measure => have := HK1.out; omega
                    case rel => exact ⟨(wrap64 (x7_1 + 1)), (by first | rfl | (simp; done) | (simp [*]; done)), H', ⟨by have := HK1.out; omega⟩, by repeat (first | exact Drawn0.refl _ | apply Drawn0.step)⟩
                · rw [if_neg c14] at H
                  have c14b0 : decide ((bt a0 x7_1) < 48) = false := decide_eq_false c14
                  clear c14
                  by_cases c17 : (bt a0 x7_1) > 57
                  · rw [if_pos c17] at H
                    have c17b0 : decide (57 < (bt a0 x7_1)) = true := decide_eq_true c17
                    clear c17
                    replace H := Option.bind_eq_some_iff.mp H
                    obtain ⟨t104, A180, H⟩ := H
                    replace H : (if t104 < 0 then (some false) else (ckone_File.l0 k1 a0 (a0.size : Int) (wrap64 (x7_1 + 1)))) = some r := H
                    have A18 := Aside0.mk A180
                    clear A180
                    by_cases c19 : t104 < 0
                    · rw [if_pos c19] at H
                      have c19b0 : decide (t104 < 0) = true := decide_eq_true c19
                      clear c19
                      obtain rfl := Option.some.inj H
                      have p5 : 0 ≤ (x7_1 : Int) := of_decide_eq_true (by first | (with_reducible assumption) | assumption)
                      have q5 : x7_1 < (a0.size : Int) := of_decide_eq_true (by first | (with_reducible assumption) | assumption)
                      have hx5 := bt_at a0 x7_1
                      replace p5 := eq_true p5
                      replace q5 := eq_true q5
                      go_wp2_with (first | (go_at_call 115; (with_reducible refine (strings_IndexByte.calls (⟨#[46, 95, 45, 47]⟩ : ByteArray) (bt a0 x7_1) t104 _ A18.out).mono ?_); rintro e w' ⟨rfl, ⟨nd, rfl⟩⟩))
                      go_ret
                      exact ⟨by first | rfl | (simp; done) | (simp [*]; done), by repeat (first | exact Drawn0.refl _ | apply Drawn0.step)⟩
                    · rw [if_neg c19] at H
                      have c19b0 : decide (t104 < 0) = false := decide_eq_false c19
                      clear c19
                      have H' := Aside0.mk H
                      clear H
                      have p5 : 0 ≤ (x7_1 : Int) := of_decide_eq_true (by first | (with_reducible assumption) | assumption)
                      have q5 : x7_1 < (a0.size : Int) := of_decide_eq_true (by first | (with_reducible assumption) | assumption)
                      have hx5 := bt_at a0 x7_1
                      replace p5 := eq_true p5
                      replace q5 := eq_true q5
                      go_wp2_with (first | (go_at_call 115; (with_reducible refine (strings_IndexByte.calls (⟨#[46, 95, 45, 47]⟩ : ByteArray) (bt a0 x7_1) t104 _ A18.out).mono ?_); rintro e w' ⟨rfl, ⟨nd, rfl⟩⟩))
                      go_roundg k1
                      case measure => have := HK1.out; omega
                      case rel => exact ⟨(wrap64 (x7_1 + 1)), (by first | rfl | (simp; done) | (simp [*]; done)), H', ⟨by have := HK1.out; omega⟩, by repeat (first | exact Drawn0.refl _ | apply Drawn0.step)⟩
                  · rw [if_neg c17] at H
                    have c17b0 : decide (57 < (bt a0 x7_1)) = false := decide_eq_false c17
                    clear c17
                    have H' := Aside0.mk H
                    clear H
                    have p5 : 0 ≤ (x7_1 : Int) := of_decide_eq_true (by first | (with_reducible assumption) | assumption)
                    have q5 : x7_1 < (a0.size : Int) := of_decide_eq_true (by first | (with_reducible assumption) | assumption)
                    have hx5 := bt_at a0 x7_1
                    replace p5 := eq_true p5
                    replace q5 := eq_true q5
                    go_wp2
                    go_roundg k1
                    case measure => have := HK1.out; omega
                    case rel => exact ⟨(wrap64 (x7_1 + 1)), (by first | rfl | (simp; done) | (simp [*]; done)), H', ⟨by have := HK1.out; omega⟩, by repeat (first | exact Drawn0.refl _ | apply Drawn0.step)⟩
              · rw [if_neg c13] at H
                have c13b0 : decide (122 < (bt a0 x7_1)) = false := decide_eq_false c13
                clear c13
                have H' := Aside0.mk H
                clear H
                have p5 : 0 ≤ (x7_1 : Int) := of_decide_eq_true (by first | (with_reducible assumption) | assumption)
                have q5 : x7_1 < (a0.size : Int) := of_decide_eq_true (by first | (with_reducible assumption) | assumption)
                have hx5 := bt_at a0 x7_1
                replace p5 := eq_true p5
                replace q5 := eq_true q5
                go_wp2
                go_roundg k1
                case measure => have := HK1.out; omega
                case rel => exact ⟨(wrap64 (x7_1 + 1)), (by first | rfl | (simp; done) | (simp [*]; done)), H', ⟨by have := HK1.out; omega⟩, by repeat (first | exact Drawn0.refl _ | apply Drawn0.step)⟩
          · rw [if_neg c4] at H
            exact absurd H (by simp)
        · rw [if_neg c3] at H
          exact absurd H (by simp)
      · rw [if_neg c2] at H
        have c2b0 : decide (x7_1 < (a0.size : Int)) = false := decide_eq_false c2
        clear c2
        by_cases c20 : a0.toList = ([] : List UInt8)
        · rw [if_pos c20] at H
          have c20b0 : (a0.toList == ([] : List UInt8)) = true := beq_iff_eq.mpr c20
          have c20b1 : (a0.toList != ([] : List UInt8)) = false := bne_eq_false_iff_eq.mpr c20
          clear c20
          obtain rfl := Option.some.inj H
          go_wp2
          go_ret
          exact ⟨by first | rfl | (simp; done) | (simp [*]; done), by repeat (first | exact Drawn0.refl _ | apply Drawn0.step)⟩
        · rw [if_neg c20] at H
          have c20b0 : (a0.toList == ([] : List UInt8)) = false := beq_eq_false_iff_ne.mpr c20
          have c20b1 : (a0.toList != ([] : List UInt8)) = true := bne_iff_ne.mpr c20
          obtain rfl := Option.some.inj H
          go_wp2
          go_ret
          exact ⟨by first | rfl | (simp; done) | (simp [*]; done), by repeat (first | exact Drawn0.refl _ | apply Drawn0.step)⟩
def dns_small.f (a0 : Int) : Option (Bool) := if a0 ≥ 97 then (some (decide (a0 ≤ 122))) else (some false)
set_option maxHeartbeats 8000000 in
set_option maxRecDepth 100000 in
theorem dns_small.calls (a0 : Int) (r : Bool) (w : World) (h : dns_small.f a0 = some r) :
    Calls Tryz.prog 117 #[.int .u8 a0] w fun e w' => e = .returned (.bool r) ∧ Drawn0 w w' := by
  have H : (if a0 ≥ 97 then (some (decide (a0 ≤ 122))) else (some false)) = some r := h
  clear h
  by_cases c2 : a0 ≥ 97
  · rw [if_pos c2] at H
    have c2b0 : decide (97 ≤ a0) = true := decide_eq_true c2
    clear c2
    obtain rfl := Option.some.inj H
    go_enter Tryz.func117, Tryz.ntmps117
    go_wp2
    go_ret
    exact ⟨by first | rfl | (simp; done) | (simp [*]; done), by repeat (first | exact Drawn0.refl _ | apply Drawn0.step)⟩
  · rw [if_neg c2] at H
    have c2b0 : decide (97 ≤ a0) = false := decide_eq_false c2
    clear c2
    obtain rfl := Option.some.inj H
    go_enter Tryz.func117, Tryz.ntmps117
    go_wp2
    go_ret
    exact ⟨by first | rfl | (simp; done) | (simp [*]; done), by repeat (first | exact Drawn0.refl _ | apply Drawn0.step)⟩
def dns_digit.f (a0 : Int) : Option (Bool) := if a0 ≥ 48 then (some (decide (a0 ≤ 57))) else (some false)
set_option maxHeartbeats 8000000 in
set_option maxRecDepth 100000 in
theorem dns_digit.calls (a0 : Int) (r : Bool) (w : World) (h : dns_digit.f a0 = some r) :
    Calls Tryz.prog 118 #[.int .u8 a0] w fun e w' => e = .returned (.bool r) ∧ Drawn0 w w' := by
  have H : (if a0 ≥ 48 then (some (decide (a0 ≤ 57))) else (some false)) = some r := h
  clear h
  by_cases c2 : a0 ≥ 48
  · rw [if_pos c2] at H
    have c2b0 : decide (48 ≤ a0) = true := decide_eq_true c2
    clear c2
    obtain rfl := Option.some.inj H
    go_enter Tryz.func118, Tryz.ntmps118
    go_wp2
    go_ret
    exact ⟨by first | rfl | (simp; done) | (simp [*]; done), by repeat (first | exact Drawn0.refl _ | apply Drawn0.step)⟩
  · rw [if_neg c2] at H
    have c2b0 : decide (48 ≤ a0) = false := decide_eq_false c2
    clear c2
    obtain rfl := Option.some.inj H
    go_enter Tryz.func118, Tryz.ntmps118
    go_wp2
    go_ret
    exact ⟨by first | rfl | (simp; done) | (simp [*]; done), by repeat (first | exact Drawn0.refl _ | apply Drawn0.step)⟩
mutual
def dns_Label.j0 : Nat → ByteArray → Bool → Option (Bool)
  | 0, _, _ => none
  | k + 1, x0, x23 => if x23 = true then (some false) else (dns_Label.l0 k x0 (x0.size : Int) 0)
def dns_Label.l0 : Nat → ByteArray → Int → Int → Option (Bool)
  | 0, _, _, _ => none
  | k + 1, x0, x25, x26 => if x26 < x25 then (if 0 ≤ x26 then (if x26 < (x0.size : Int) then ((dns_small.f (bt x0 x26)).bind fun t105 => (if t105 = true then (dns_Label.l0 k x0 x25 (wrap64 (x26 + 1))) else ((dns_digit.f (bt x0 x26)).bind fun t106 => (if t106 = true then (dns_Label.l0 k x0 x25 (wrap64 (x26 + 1))) else (if (bt x0 x26) = 45 then (dns_Label.l0 k x0 x25 (wrap64 (x26 + 1))) else (some false)))))) else (none)) else (none)) else (some true)
end
def dns_Label.f (k : Nat) (a0 : ByteArray) : Option (Bool) := if a0.toList = ([] : List UInt8) then (dns_Label.j0 k a0 true) else (if (a0.size : Int) > 63 then (dns_Label.j0 k a0 true) else (if 0 < (a0.size : Int) then (if (bt a0 0) = 45 then (dns_Label.j0 k a0 true) else (if 0 ≤ (wrap64 ((a0.size : Int) - 1)) then (if (wrap64 ((a0.size : Int) - 1)) < (a0.size : Int) then (dns_Label.j0 k a0 ((bt a0 (wrap64 ((a0.size : Int) - 1))) == 45)) else (none)) else (none))) else (none)))
set_option maxHeartbeats 8000000 in
set_option maxRecDepth 100000 in
theorem dns_Label.calls (k : Nat) (a0 : ByteArray) (r : Bool) (w : World) (h : dns_Label.f k a0 = some r) :
    Calls Tryz.prog 95 #[.string a0] w fun e w' => e = .returned (.bool r) ∧ Drawn0 w w' := by
  have H : (if a0.toList = ([] : List UInt8) then (dns_Label.j0 k a0 true) else (if (a0.size : Int) > 63 then (dns_Label.j0 k a0 true) else (if 0 < (a0.size : Int) then (if (bt a0 0) = 45 then (dns_Label.j0 k a0 true) else (if 0 ≤ (wrap64 ((a0.size : Int) - 1)) then (if (wrap64 ((a0.size : Int) - 1)) < (a0.size : Int) then (dns_Label.j0 k a0 ((bt a0 (wrap64 ((a0.size : Int) - 1))) == 45)) else (none)) else (none))) else (none)))) = some r := h
  clear h
  have HC2 := Aside0.mk H
  clear H
  go_enter Tryz.func95, Tryz.ntmps95
  go_upto_region 1 with (fail)
  go_cut [23] (fun v23 wc => ∃ (kq : Nat) (x23_1 : Bool), v23 = .bool x23_1 ∧ Aside0 (dns_Label.j0 kq a0 x23_1 = some r) ∧ Aside0 (kq ≤ k) ∧ Drawn0 w wc)
  case first =>
    have H := HC2.out
    clear HC2
    by_cases c3 : a0.toList = ([] : List UInt8)
    · rw [if_pos c3] at H
      have c3b0 : (a0.toList == ([] : List UInt8)) = true := beq_iff_eq.mpr c3
      have c3b1 : (a0.toList != ([] : List UInt8)) = false := bne_eq_false_iff_eq.mpr c3
      clear c3
      (first | rw [c3b0] | (simp only [i64_w, i32_w]; rw [c3b0]) | skip)
      have H' := Aside0.mk H
      clear H
      go_wp2
      go_meet
      case rel => exact ⟨_, (true), (by first | rfl | (simp; done) | (simp [*]; done)), H', ⟨by first | omega | exact Nat.le_refl _⟩, by repeat (first | exact Drawn0.refl _ | apply Drawn0.step)⟩
    · rw [if_neg c3] at H
      have c3b0 : (a0.toList == ([] : List UInt8)) = false := beq_eq_false_iff_ne.mpr c3
      have c3b1 : (a0.toList != ([] : List UInt8)) = true := bne_iff_ne.mpr c3
      (first | rw [c3b0] | (simp only [i64_w, i32_w]; rw [c3b0]) | skip)
      by_cases c4 : (a0.size : Int) > 63
      · rw [if_pos c4] at H
        have c4b0 : decide (63 < (a0.size : Int)) = true := decide_eq_true c4
        have c4b1 : decide (63 < a0.size) = true := decide_eq_true (by omega)
        clear c4
        have H' := Aside0.mk H
        clear H
        go_wp2
        go_meet
        case rel => exact ⟨_, (true), (by first | rfl | (simp; done) | (simp [*]; done)), H', ⟨by first | omega | exact Nat.le_refl _⟩, by repeat (first | exact Drawn0.refl _ | apply Drawn0.step)⟩
      · rw [if_neg c4] at H
        have c4b0 : decide (63 < (a0.size : Int)) = false := decide_eq_false c4
        have c4b1 : decide (63 < a0.size) = false := decide_eq_false (by omega)
        clear c4
        by_cases c5 : 0 < (a0.size : Int)
        · rw [if_pos c5] at H
          have c5b0 : decide (0 < (a0.size : Int)) = true := decide_eq_true c5
          have c5b1 : decide (0 < a0.size) = true := decide_eq_true (by omega)
          clear c5
          by_cases c7 : (bt a0 0) = 45
          · rw [if_pos c7] at H
            have c7b0 : ((bt a0 0) == 45) = true := beq_iff_eq.mpr c7
            have c7b1 : ((bt a0 0) != 45) = false := bne_eq_false_iff_eq.mpr c7
            clear c7
            have H' := Aside0.mk H
            clear H
            have p6 : 0 ≤ (0 : Int) := (by omega)
            have q6 : 0 < a0.size := (by have : (0 : Int) < (a0.size : Int) := of_decide_eq_true (by first | (with_reducible assumption) | assumption); omega)
            have hx6 : ∀ h : 0 < a0.size, ((a0[0]'h).toNat : Int) = bt a0 0 := bt_at a0 0
            clear p6
            have qi6 : (0 < (a0.size : Int)) = True := eq_true (of_decide_eq_true (by first | (with_reducible assumption) | assumption))
            replace q6 := eq_true q6
            go_wp2
            go_meet
            case rel => exact ⟨_, (true), (by first | rfl | (simp; done) | (simp [*]; done)), H', ⟨by first | omega | exact Nat.le_refl _⟩, by repeat (first | exact Drawn0.refl _ | apply Drawn0.step)⟩
          · rw [if_neg c7] at H
            have c7b0 : ((bt a0 0) == 45) = false := beq_eq_false_iff_ne.mpr c7
            have c7b1 : ((bt a0 0) != 45) = true := bne_iff_ne.mpr c7
            obtain ⟨ji8, hji8⟩ : ∃ j_ : Int, (wrap64 ((a0.size : Int) - 1)) = j_ := ⟨_, rfl⟩
            replace H : (if 0 ≤ (ji8) then (if (ji8) < (a0.size : Int) then (dns_Label.j0 k a0 ((bt a0 (ji8)) == 45)) else (none)) else (none)) = some r := by first | (rw [hji8] at H; exact H) | (simp only [hji8] at H ⊢; exact H)
            have hji8w : (IntKind.i64.wrap ((a0.size : Int) - 1)) = ji8 := (i64_w _).trans hji8
            by_cases c9 : 0 ≤ (ji8)
            · rw [if_pos c9] at H
              have c9b0 : decide (0 ≤ (ji8)) = true := decide_eq_true c9
              clear c9
              by_cases c10 : (ji8) < (a0.size : Int)
              · rw [if_pos c10] at H
                have c10b0 : decide ((ji8) < (a0.size : Int)) = true := decide_eq_true c10
                clear c10
                have H' := Aside0.mk H
                clear H
                have p6 : 0 ≤ (0 : Int) := (by omega)
                have q6 : 0 < a0.size := (by have : (0 : Int) < (a0.size : Int) := of_decide_eq_true (by first | (with_reducible assumption) | assumption); omega)
                have hx6 : ∀ h : 0 < a0.size, ((a0[0]'h).toNat : Int) = bt a0 0 := bt_at a0 0
                clear p6
                have qi6 : (0 < (a0.size : Int)) = True := eq_true (of_decide_eq_true (by first | (with_reducible assumption) | assumption))
                replace q6 := eq_true q6
                have p11 : 0 ≤ ((ji8) : Int) := of_decide_eq_true (by first | (with_reducible assumption) | assumption)
                have q11 : (ji8) < (a0.size : Int) := of_decide_eq_true (by first | (with_reducible assumption) | assumption)
                have hx11 := bt_at a0 (ji8)
                replace p11 := eq_true p11
                replace q11 := eq_true q11
                go_wp2
                go_meet
                case rel => exact ⟨_, (((bt a0 (ji8)) == 45)), (by first | rfl | (simp; done) | (simp only [← hji8] <;> (first | rfl | simp)) | (simp [*]; done)), H', ⟨by first | omega | exact Nat.le_refl _⟩, by repeat (first | exact Drawn0.refl _ | apply Drawn0.step)⟩
              · rw [if_neg c10] at H
                exact absurd H (by simp)
            · rw [if_neg c9] at H
              exact absurd H (by simp)
        · rw [if_neg c5] at H
          exact absurd H (by simp)
  case rest =>
    clear HC2
    try clear c1
    try clear p1
    try clear q1
    try clear hx1
    try clear p2
    try clear c3
    try clear c3b0
    try clear c3b1
    try clear c4
    try clear c4b0
    try clear c4b1
    try clear c5
    try clear c5b0
    try clear c5b1
    try clear p6
    try clear q6
    try clear hx6
    try clear qi6
    try clear c7
    try clear c7b0
    try clear c7b1
    try clear c9
    try clear c9b0
    try clear c10
    try clear c10b0
    try clear p11
    try clear q11
    try clear hx11
    try clear p11
    try clear p6
    try clear q11
    try clear q6
    obtain ⟨kq, x23_1, rfl, HA, HJ1, ⟨mc1, rfl⟩⟩ := hcut
    cases kq with
    | zero => exact absurd HA.out (by simp [dns_Label.j0])
    | succ kj1 =>
      have H := HA.out
      clear HA
      simp only [dns_Label.j0] at H
      by_cases c12 : x23_1 = true
      · subst c12
        have H1 : (some false) = some r := by rw [if_pos rfl] at H; exact H
        clear H
        have H := H1
        clear H1
        obtain rfl := Option.some.inj H
        go_wp2
        go_ret
        exact ⟨by first | rfl | (simp; done) | (simp [*]; done), by repeat (first | exact Drawn0.refl _ | apply Drawn0.step)⟩
      · replace c12 := Bool.eq_false_iff.mpr c12
        subst c12
        have H1 : (dns_Label.l0 kj1 a0 (a0.size : Int) 0) = some r := by rw [if_neg (show ¬ (false = true) by decide)] at H; exact H
        clear H
        have H := H1
        clear H1
        have H' := Aside0.mk H
        clear H
        go_wp2
        go_loopg [26] kj1 (fun kq v26 w' => ∃ (x26_2 : Int), v26 = .int .i64 x26_2 ∧ Aside0 (dns_Label.l0 kq a0 (a0.size : Int) x26_2 = some r) ∧ Aside0 (kq ≤ kj1) ∧ Drawn0 w w')
        case atStart => exact ⟨(0), (by first | rfl | (simp; done) | (simp [*]; done)), H', ⟨Nat.le_refl _⟩, by repeat (first | exact Drawn0.refl _ | apply Drawn0.step)⟩
        case round =>
          clear H'
          try clear c1
          try clear p1
          try clear q1
          try clear hx1
          try clear p2
          try clear c3
          try clear c3b0
          try clear c3b1
          try clear c4
          try clear c4b0
          try clear c4b1
          try clear c5
          try clear c5b0
          try clear c5b1
          try clear p6
          try clear q6
          try clear hx6
          try clear qi6
          try clear c7
          try clear c7b0
          try clear c7b1
          try clear c9
          try clear c9b0
          try clear c10
          try clear c10b0
          try clear p11
          try clear q11
          try clear hx11
          try clear c12
          try clear p1
          try clear p11
          try clear p2
          try clear p6
          try clear q1
          try clear q11
          try clear q6
          obtain ⟨x26_2, rfl, HA, HK2, ⟨m2, rfl⟩⟩ := hrel
          cases gk with
          | zero => exact absurd HA.out (by simp [dns_Label.l0])
          | succ k2 =>
            have H := HA.out
            clear HA
            simp only [dns_Label.l0] at H
            by_cases c13 : x26_2 < (a0.size : Int)
            · rw [if_pos c13] at H
              have c13b0 : decide (x26_2 < (a0.size : Int)) = true := decide_eq_true c13
              clear c13
              by_cases c14 : 0 ≤ x26_2
              · rw [if_pos c14] at H
                have c14b0 : decide (0 ≤ x26_2) = true := decide_eq_true c14
                clear c14
                by_cases c15 : x26_2 < (a0.size : Int)
                · rw [if_pos c15] at H
                  have c15b0 : decide (x26_2 < (a0.size : Int)) = true := decide_eq_true c15
                  clear c15
                  replace H := Option.bind_eq_some_iff.mp H
                  obtain ⟨t105, A170, H⟩ := H
                  replace H : (if t105 = true then (dns_Label.l0 k2 a0 (a0.size : Int) (wrap64 (x26_2 + 1))) else ((dns_digit.f (bt a0 x26_2)).bind fun t106 => (if t106 = true then (dns_Label.l0 k2 a0 (a0.size : Int) (wrap64 (x26_2 + 1))) else (if (bt a0 x26_2) = 45 then (dns_Label.l0 k2 a0 (a0.size : Int) (wrap64 (x26_2 + 1))) else (some false))))) = some r := H
                  have A17 := Aside0.mk A170
                  clear A170
                  by_cases c18 : t105 = true
                  · subst c18
                    have H1 : (dns_Label.l0 k2 a0 (a0.size : Int) (wrap64 (x26_2 + 1))) = some r := by rw [if_pos rfl] at H; exact H
                    clear H
                    have H := H1
                    clear H1
                    have H' := Aside0.mk H
                    clear H
                    have p16 : 0 ≤ (x26_2 : Int) := of_decide_eq_true (by first | (with_reducible assumption) | assumption)
                    have q16 : x26_2 < (a0.size : Int) := of_decide_eq_true (by first | (with_reducible assumption) | assumption)
                    have hx16 := bt_at a0 x26_2
                    replace p16 := eq_true p16
                    replace q16 := eq_true q16
                    go_wp2_with (first | ((with_reducible refine gate_callee (f := 117) rfl ?_); refine goesL_ (some 32) rfl rfl Tryz.func117 (by kernel_rfl) rfl #[.int .u8 (bt a0 x26_2)] rfl (by (try simp only [List.map_toArray, List.map_cons, List.map_nil]); first | done | rfl | (simp only [List.length_drop, List.length_take]; rfl) | (simp (disch := ((try simp only [decide_eq_true_eq, decide_eq_false_iff_not] at *); omega)) only [IntWalk.u64_in, IntWalk.u32_in, IntWalk.u16_in, IntWalk.u8_in, IntWalk.i64_in] <;> rfl)) ?_; (with_reducible refine (dns_small.calls (bt a0 x26_2) true _ A17.out).mono ?_); rintro e w' ⟨rfl, ⟨nd, rfl⟩⟩; refine ⟨_, rfl, ?_⟩))
                    go_roundg k2
                    case measure => have := HJ1.out; have := HK2.out; omega
                    case rel => exact ⟨(wrap64 (x26_2 + 1)), (by first | rfl | (simp; done) | (simp [*]; done)), H', ⟨by have := HJ1.out; have := HK2.out; omega⟩, by repeat (first | exact Drawn0.refl _ | apply Drawn0.step)⟩
                  · replace c18 := Bool.eq_false_iff.mpr c18
                    subst c18
                    have H1 : ((dns_digit.f (bt a0 x26_2)).bind fun t106 => (if t106 = true then (dns_Label.l0 k2 a0 (a0.size : Int) (wrap64 (x26_2 + 1))) else (if (bt a0 x26_2) = 45 then (dns_Label.l0 k2 a0 (a0.size : Int) (wrap64 (x26_2 + 1))) else (some false)))) = some r := by rw [if_neg (show ¬ (false = true) by decide)] at H; exact H
                    clear H
                    have H := H1
                    clear H1
                    replace H := Option.bind_eq_some_iff.mp H
                    obtain ⟨t106, A200, H⟩ := H
                    replace H : (if t106 = true then (dns_Label.l0 k2 a0 (a0.size : Int) (wrap64 (x26_2 + 1))) else (if (bt a0 x26_2) = 45 then (dns_Label.l0 k2 a0 (a0.size : Int) (wrap64 (x26_2 + 1))) else (some false))) = some r := H
                    have A20 := Aside0.mk A200
                    clear A200
                    by_cases c21 : t106 = true
                    · subst c21
                      have H1 : (dns_Label.l0 k2 a0 (a0.size : Int) (wrap64 (x26_2 + 1))) = some r := by rw [if_pos rfl] at H; exact H
                      clear H
                      have H := H1
                      clear H1
                      have H' := Aside0.mk H
                      clear H
                      have p16 : 0 ≤ (x26_2 : Int) := of_decide_eq_true (by first | (with_reducible assumption) | assumption)
                      have q16 : x26_2 < (a0.size : Int) := of_decide_eq_true (by first | (with_reducible assumption) | assumption)
                      have hx16 := bt_at a0 x26_2
                      replace p16 := eq_true p16
                      replace q16 := eq_true q16
                      go_wp2_with (first | ((with_reducible refine gate_callee (f := 117) rfl ?_); refine goesL_ (some 32) rfl rfl Tryz.func117 (by kernel_rfl) rfl #[.int .u8 (bt a0 x26_2)] rfl (by (try simp only [List.map_toArray, List.map_cons, List.map_nil]); first | done | rfl | (simp only [List.length_drop, List.length_take]; rfl) | (simp (disch := ((try simp only [decide_eq_true_eq, decide_eq_false_iff_not] at *); omega)) only [IntWalk.u64_in, IntWalk.u32_in, IntWalk.u16_in, IntWalk.u8_in, IntWalk.i64_in] <;> rfl)) ?_; (with_reducible refine (dns_small.calls (bt a0 x26_2) false _ A17.out).mono ?_); rintro e w' ⟨rfl, ⟨nd, rfl⟩⟩; refine ⟨_, rfl, ?_⟩; have p19 : 0 ≤ (x26_2 : Int) := of_decide_eq_true (by first | (with_reducible assumption) | assumption); have q19 : x26_2 < (a0.size : Int) := of_decide_eq_true (by first | (with_reducible assumption) | assumption); have hx19 := bt_at a0 x26_2; replace p19 := eq_true p19; replace q19 := eq_true q19) | (go_at_call 118; (with_reducible refine (dns_digit.calls (bt a0 x26_2) true _ A20.out).mono ?_); rintro e w' ⟨rfl, ⟨nd, rfl⟩⟩))
                      go_roundg k2
                      case measure => have := HJ1.out; have := HK2.out; omega
                      case rel => exact ⟨(wrap64 (x26_2 + 1)), (by first | rfl | (simp; done) | (simp [*]; done)), H', ⟨by have := HJ1.out; have := HK2.out; omega⟩, by repeat (first | exact Drawn0.refl _ | apply Drawn0.step)⟩
                    · replace c21 := Bool.eq_false_iff.mpr c21
                      subst c21
                      have H1 : (if (bt a0 x26_2) = 45 then (dns_Label.l0 k2 a0 (a0.size : Int) (wrap64 (x26_2 + 1))) else (some false)) = some r := by rw [if_neg (show ¬ (false = true) by decide)] at H; exact H
                      clear H
                      have H := H1
                      clear H1
                      by_cases c23 : (bt a0 x26_2) = 45
                      · rw [if_pos c23] at H
                        have c23b0 : ((bt a0 x26_2) == 45) = true := beq_iff_eq.mpr c23
                        have c23b1 : ((bt a0 x26_2) != 45) = false := bne_eq_false_iff_eq.mpr c23
                        clear c23
                        have H' := Aside0.mk H
                        clear H
                        have p16 : 0 ≤ (x26_2 : Int) := of_decide_eq_true (by first | (with_reducible assumption) | assumption)
                        have q16 : x26_2 < (a0.size : Int) := of_decide_eq_true (by first | (with_reducible assumption) | assumption)
                        have hx16 := bt_at a0 x26_2
                        replace p16 := eq_true p16
                        replace q16 := eq_true q16
                        go_wp2_with (first | ((with_reducible refine gate_callee (f := 117) rfl ?_); refine goesL_ (some 32) rfl rfl Tryz.func117 (by kernel_rfl) rfl #[.int .u8 (bt a0 x26_2)] rfl (by (try simp only [List.map_toArray, List.map_cons, List.map_nil]); first | done | rfl | (simp only [List.length_drop, List.length_take]; rfl) | (simp (disch := ((try simp only [decide_eq_true_eq, decide_eq_false_iff_not] at *); omega)) only [IntWalk.u64_in, IntWalk.u32_in, IntWalk.u16_in, IntWalk.u8_in, IntWalk.i64_in] <;> rfl)) ?_; (with_reducible refine (dns_small.calls (bt a0 x26_2) false _ A17.out).mono ?_); rintro e w' ⟨rfl, ⟨nd, rfl⟩⟩; refine ⟨_, rfl, ?_⟩; have p19 : 0 ≤ (x26_2 : Int) := of_decide_eq_true (by first | (with_reducible assumption) | assumption); have q19 : x26_2 < (a0.size : Int) := of_decide_eq_true (by first | (with_reducible assumption) | assumption); have hx19 := bt_at a0 x26_2; replace p19 := eq_true p19; replace q19 := eq_true q19) | (go_at_call 118; (with_reducible refine (dns_digit.calls (bt a0 x26_2) false _ A20.out).mono ?_); rintro e w' ⟨rfl, ⟨nd, rfl⟩⟩; have p22 : 0 ≤ (x26_2 : Int) := of_decide_eq_true (by first | (with_reducible assumption) | assumption); have q22 : x26_2 < (a0.size : Int) := of_decide_eq_true (by first | (with_reducible assumption) | assumption); have hx22 := bt_at a0 x26_2; replace p22 := eq_true p22; replace q22 := eq_true q22))
                        go_roundg k2
                        case measure => have := HJ1.out; have := HK2.out; omega
                        case rel => exact ⟨(wrap64 (x26_2 + 1)), (by first | rfl | (simp; done) | (simp [*]; done)), H', ⟨by have := HJ1.out; have := HK2.out; omega⟩, by repeat (first | exact Drawn0.refl _ | apply Drawn0.step)⟩
                      · rw [if_neg c23] at H
                        have c23b0 : ((bt a0 x26_2) == 45) = false := beq_eq_false_iff_ne.mpr c23
                        have c23b1 : ((bt a0 x26_2) != 45) = true := bne_iff_ne.mpr c23
                        obtain rfl := Option.some.inj H
                        have p16 : 0 ≤ (x26_2 : Int) := of_decide_eq_true (by first | (with_reducible assumption) | assumption)
                        have q16 : x26_2 < (a0.size : Int) := of_decide_eq_true (by first | (with_reducible assumption) | assumption)
                        have hx16 := bt_at a0 x26_2
                        replace p16 := eq_true p16
                        replace q16 := eq_true q16
                        go_wp2_with (first | ((with_reducible refine gate_callee (f := 117) rfl ?_); refine goesL_ (some 32) rfl rfl Tryz.func117 (by kernel_rfl) rfl #[.int .u8 (bt a0 x26_2)] rfl (by (try simp only [List.map_toArray, List.map_cons, List.map_nil]); first | done | rfl | (simp only [List.length_drop, List.length_take]; rfl) | (simp (disch := ((try simp only [decide_eq_true_eq, decide_eq_false_iff_not] at *); omega)) only [IntWalk.u64_in, IntWalk.u32_in, IntWalk.u16_in, IntWalk.u8_in, IntWalk.i64_in] <;> rfl)) ?_; (with_reducible refine (dns_small.calls (bt a0 x26_2) false _ A17.out).mono ?_); rintro e w' ⟨rfl, ⟨nd, rfl⟩⟩; refine ⟨_, rfl, ?_⟩; have p19 : 0 ≤ (x26_2 : Int) := of_decide_eq_true (by first | (with_reducible assumption) | assumption); have q19 : x26_2 < (a0.size : Int) := of_decide_eq_true (by first | (with_reducible assumption) | assumption); have hx19 := bt_at a0 x26_2; replace p19 := eq_true p19; replace q19 := eq_true q19) | (go_at_call 118; (with_reducible refine (dns_digit.calls (bt a0 x26_2) false _ A20.out).mono ?_); rintro e w' ⟨rfl, ⟨nd, rfl⟩⟩; have p22 : 0 ≤ (x26_2 : Int) := of_decide_eq_true (by first | (with_reducible assumption) | assumption); have q22 : x26_2 < (a0.size : Int) := of_decide_eq_true (by first | (with_reducible assumption) | assumption); have hx22 := bt_at a0 x26_2; replace p22 := eq_true p22; replace q22 := eq_true q22))
                        go_ret
                        exact ⟨by first | rfl | (simp; done) | (simp [*]; done), by repeat (first | exact Drawn0.refl _ | apply Drawn0.step)⟩
                · rw [if_neg c15] at H
                  exact absurd H (by simp)
              · rw [if_neg c14] at H
                exact absurd H (by simp)
            · rw [if_neg c13] at H
              have c13b0 : decide (x26_2 < (a0.size : Int)) = false := decide_eq_false c13
              clear c13
              obtain rfl := Option.some.inj H
              go_wp2
              go_ret
              exact ⟨by first | rfl | (simp; done) | (simp [*]; done), by repeat (first | exact Drawn0.refl _ | apply Drawn0.step)⟩
def dns_great.f (a0 : Int) : Option (Bool) := if a0 ≥ 65 then (some (decide (a0 ≤ 90))) else (some false)
set_option maxHeartbeats 8000000 in
set_option maxRecDepth 100000 in
theorem dns_great.calls (a0 : Int) (r : Bool) (w : World) (h : dns_great.f a0 = some r) :
    Calls Tryz.prog 119 #[.int .u8 a0] w fun e w' => e = .returned (.bool r) ∧ Drawn0 w w' := by
  have H : (if a0 ≥ 65 then (some (decide (a0 ≤ 90))) else (some false)) = some r := h
  clear h
  by_cases c2 : a0 ≥ 65
  · rw [if_pos c2] at H
    have c2b0 : decide (65 ≤ a0) = true := decide_eq_true c2
    clear c2
    obtain rfl := Option.some.inj H
    go_enter Tryz.func119, Tryz.ntmps119
    go_wp2
    go_ret
    exact ⟨by first | rfl | (simp; done) | (simp [*]; done), by repeat (first | exact Drawn0.refl _ | apply Drawn0.step)⟩
  · rw [if_neg c2] at H
    have c2b0 : decide (65 ≤ a0) = false := decide_eq_false c2
    clear c2
    obtain rfl := Option.some.inj H
    go_enter Tryz.func119, Tryz.ntmps119
    go_wp2
    go_ret
    exact ⟨by first | rfl | (simp; done) | (simp [*]; done), by repeat (first | exact Drawn0.refl _ | apply Drawn0.step)⟩
end Go.Proofs.YtlmeelmjodjfpaaGreatDoor.PB
end
