/- CkptBursts, part 22 of 24 of its proof: for every input that meets the row's condition (laid, tied) the call returns true and each argument reads behind it as before. -/
import Derived.Test.YtlmeelmjodjfpaaGreatDoorG02
import Derived.WalkKit
import Derived.ProofKit
import Derived.ChangeOld
import Derived.SizedLaws
import Derived.Deep.Slices
import Derived.Test.YtlmeelmjodjfpaaGreatDoorG12
section
namespace Go.Proofs.YtlmeelmjodjfpaaGreatDoor.PB
open Go.RowKit Go.Proofs.YtlmeelmjodjfpaaGreatDoorW.PrintWords
set_option linter.unusedVariables false
set_option linter.unusedSimpArgs false
section
variable {H : Type} (enc : TypeId × Value → H) (P : Program) (w : World)
/-- A reading of type t, of bounded weights, holds a value of kind d of which sm is so. -/
def Opens {α : Type} (t : TypeId) (d : Kd α) (sm : α → Prop) : Prop :=
  ∀ (fuel : Nat) (cs : List Value) (x : DataW H × List MemPlace), DataW.trod enc P w 0 (fun _ => true) true fuel t cs = some x → (∀ n ∈ x.1.weights P t, n ≤ reachBytes) → ∃ a, d.K w a cs ∧ sm a
/-- The same of the fields of a struct from cell off on. -/
def OpensF {α : Type} (fs : List Field) (off : Nat) (d : Kd α) (sm : α → Prop) : Prop :=
  ∀ (n : Nat) (cs : List Value) (xs : List (DataW H × List MemPlace)), cs.length = off + d.sz → xs.length = fs.length →
    (∀ (i : Nat) (f : Field), fs[i]? = some f → DataW.trod enc P w 0 (fun _ => true) true n f.type ((cs.drop f.offset).take (P.cellsOf f.type)) = xs[i]?) →
    (∀ m ∈ DataW.weightsEach P (fs.map (·.type)) (xs.map (·.1)), m ≤ reachBytes) → ∃ a, d.K w a (cs.drop off) ∧ sm a
variable {enc P w}
theorem opens_string {t : TypeId} (ht : P.underlying t = some .string) : Opens enc P w t Kd.string (fun s => s.size ≤ 140737488351232) := by
  intro fuel cs x h hw
  obtain ⟨s, rfl, rfl, hs⟩ := DataW.trod_string ht h
  refine ⟨s, rfl, ?_⟩
  have := hw s.data.toList.length (by simp [DataW.weights])
  rw [Array.length_toList] at this
  exact this
theorem opens_int {t : TypeId} {k : IntKind} (ht : P.underlying t = some (.int k)) : Opens enc P w t (Kd.int k) (fun n => (Lit.int k n).wf = true) := by
  intro fuel cs x h hw
  obtain ⟨n, rfl, rfl, hn⟩ := DataW.trod_int ht h
  exact ⟨n, rfl, hn⟩
theorem opens_bool {t : TypeId} (ht : P.underlying t = some .bool) : Opens enc P w t Kd.bool (fun _ => True) := by
  intro fuel cs x h hw
  obtain ⟨b, rfl, rfl⟩ := DataW.trod_bool ht h
  exact ⟨b, rfl, trivial⟩
theorem list_choice {α : Type} {Q : Nat → α → Prop} : ∀ (n : Nat), (∀ i, i < n → ∃ a, Q i a) → ∃ l : List α, l.length = n ∧ ∀ j p, l[j]? = some p → Q j p
  | 0, _ => ⟨[], rfl, fun j p h => by cases h⟩
  | n + 1, h => by
    obtain ⟨l, hl, hq⟩ := list_choice n (fun i hi => h i (by omega))
    obtain ⟨a, ha⟩ := h n (by omega)
    refine ⟨l ++ [a], by simp [hl], ?_⟩
    intro j p hj
    rcases Nat.lt_or_ge j l.length with h1 | h1
    · rw [List.getElem?_append_left h1] at hj; exact hq j p hj
    · rw [List.getElem?_append_right h1] at hj
      have : j - l.length = 0 := by
        rcases Nat.eq_zero_or_pos (j - l.length) with h2 | h2
        · exact h2
        · rw [List.getElem?_eq_none (by simp; omega)] at hj; cases hj
      rw [this] at hj
      obtain rfl : a = p := by simpa using hj
      obtain rfl : j = n := by omega
      exact ha
theorem mem_weightsAll {e : TypeId} : ∀ {l : List (DataW H)} {d : DataW H} {n : Nat}, d ∈ l → n ∈ d.weights P e → n ∈ DataW.weightsAll P e l
  | x :: l, d, n, hd, hn => by
    unfold DataW.weightsAll
    rcases List.mem_cons.1 hd with rfl | hd
    · exact List.mem_append_left _ hn
    · exact List.mem_append_right _ (mem_weightsAll hd hn)
theorem opens_slice {α : Type} {d : Kd α} {sm : α → Prop} {t e : TypeId} (e' : Nat) (ht : P.underlying t = some (.slice e)) (hc : P.cellsOf e = d.sz) (hB : 0 < P.bytesOf e) (h1 : Opens enc P w e d sm) :
    Opens enc P w t (Kd.slice e' d) (fun l => l.length ≤ 140737488351232 ∧ ∀ x ∈ l, sm x) := by
  intro fuel cs x h hw
  rcases Deep.open_slice ht h with ⟨rfl, rfl⟩ | ⟨a, len, cap, m, n, D, Pl, rfl, _, hl, hm, rfl, rfl, hel⟩
  · exact ⟨[], ⟨none, 0, rfl, Nat.le_refl _, Kd.C_nil d w⟩, by simp, by simp⟩
  have hwt : ∀ k ∈ DataW.weights P t (.slice ((List.range len).map D) ((List.range (m - len)).map fun j => D (len + j))), k ≤ reachBytes := by simpa using hw
  have hsz : (((List.range len).map D).length + ((List.range (m - len)).map fun j => D (len + j)).length) * P.bytesOf e ≤ reachBytes := hwt _ (by simp [DataW.weights, ht])
  have hlen : len ≤ 140737488351232 := by
    have h2 : len ≤ len * P.bytesOf e := Nat.le_mul_of_pos_right _ hB
    have h3 : len * P.bytesOf e ≤ (((List.range len).map D).length + ((List.range (m - len)).map fun j => D (len + j)).length) * P.bytesOf e := Nat.mul_le_mul_right _ (by simp)
    exact Nat.le_trans h2 (Nat.le_trans h3 hsz)
  obtain ⟨l, hll, hq⟩ := list_choice (Q := fun i p => ∃ c, w.cells? 0 (a.add (i * P.cellsOf e)) (P.cellsOf e) = some c ∧ d.K w p c ∧ sm p) len (fun i hi => by
    obtain ⟨c, hc1, hc2⟩ := hel i (Nat.lt_of_lt_of_le hi hl)
    obtain ⟨p, hp1, hp2⟩ := h1 _ _ _ hc2 (fun k hk => hwt k (by
      have hmem : D i ∈ (List.range len).map D := List.mem_map.2 ⟨i, List.mem_range.2 hi, rfl⟩
      have := mem_weightsAll (P := P) (e := e) hmem hk
      simp only [DataW.weights, ht]
      exact List.mem_cons_of_mem _ (List.mem_append_left _ this)))
    exact ⟨p, c, hc1, hp1, hp2⟩)
  have hsm : ∀ x ∈ l, sm x := by
    intro x hx
    obtain ⟨j, hj⟩ := List.getElem?_of_mem hx
    obtain ⟨_, _, _, h4⟩ := hq j x hj
    exact h4
  refine ⟨l, ⟨some a, m, by rw [hll], by omega, ?_⟩, by omega, hsm⟩
  rw [hll]
  refine ⟨hll, by omega, fun _ => ⟨a, rfl, ?_⟩⟩
  intro j p hj
  obtain ⟨c, hc1, hc2, _⟩ := hq j p hj
  obtain ⟨_, h5, h6⟩ := World.cells?_some hc1
  refine ⟨c, d.K_len hc2, hc2, ?_⟩
  intro i u hu
  have hi : i < c.length := by
    rcases Nat.lt_or_ge i c.length with h7 | h7
    · exact h7
    · rw [List.getElem?_eq_none h7] at hu; cases hu
  have := h6 i (by omega)
  rw [Deep.add_add, hc] at this
  rw [this, hu]
theorem opensF_one {α : Type} {d : Kd α} {sm : α → Prop} {f : Field} {off : Nat} (ho : f.offset = off) (hc : P.cellsOf f.type = d.sz) (h1 : Opens enc P w f.type d sm) : OpensF enc P w [f] off d sm := by
  intro n cs xs hl hx hf hw
  match xs, hx with
  | [y], _ =>
    have h2 := hf 0 f rfl
    rw [ho, hc, List.take_of_length_le (by rw [List.length_drop]; omega)] at h2
    exact h1 n _ y h2 (fun k hk => hw k (by simp [DataW.weightsEach, hk]))
theorem opensF_cons {α β : Type} {d1 : Kd α} {d2 : Kd β} {s1 : α → Prop} {s2 : β → Prop} {f : Field} {fs : List Field} {off : Nat} (ho : f.offset = off) (hc : P.cellsOf f.type = d1.sz) (h1 : Opens enc P w f.type d1 s1) (h2 : OpensF enc P w fs (off + d1.sz) d2 s2) :
    OpensF enc P w (f :: fs) off (Kd.pair d1 d2) (fun x => s1 x.1 ∧ s2 x.2) := by
  intro n cs xs hl hx hf hw
  have hl2 : cs.length = off + (d1.sz + d2.sz) := hl
  match xs, hx with
  | y :: ys, hx =>
    have e1 := hf 0 f rfl
    rw [ho, hc] at e1
    obtain ⟨a, ha1, ha2⟩ := h1 n _ y e1 (fun k hk => hw k (by simp [DataW.weightsEach, hk]))
    obtain ⟨b, hb1, hb2⟩ := h2 n cs ys (by omega) (by simpa using hx) (fun i g hg => by simpa using hf (i + 1) g (by simpa using hg)) (fun k hk => hw k (by simp only [List.map_cons, DataW.weightsEach]; exact List.mem_append_right _ hk))
    refine ⟨(a, b), ⟨(cs.drop off).take d1.sz, cs.drop (off + d1.sz), ?_, ha1, hb1⟩, ha2, hb2⟩
    rw [← List.drop_drop, List.take_append_drop]
theorem opens_struct {α : Type} {d : Kd α} {sm : α → Prop} {t : TypeId} {fs : Array Field} (ht : P.underlying t = some (.struct fs)) (hc : P.cellsOf t = d.sz) (h1 : OpensF enc P w fs.toList 0 d sm) : Opens enc P w t d sm := by
  intro fuel cs x h hw
  obtain ⟨xs, n, _, rfl, hl, hlen, hf⟩ := DataW.trod_struct ht h
  have := h1 n cs xs (by omega) (by simpa using hlen) (fun i f hi => hf i f (by simpa using hi)) (fun m hm => hw m (by simp only [DataW.weights, ht]; exact hm))
  simpa using this
theorem opens_iso {α β : Type} {d : Kd α} {sm : α → Prop} {t : TypeId} {f : β → α} (g : α → β) (hfg : ∀ a, f (g a) = a) (h1 : Opens enc P w t d sm) : Opens enc P w t (Kd.iso d f) (fun b => sm (f b)) := by
  intro fuel cs x h hw
  obtain ⟨a, h2, h3⟩ := h1 fuel cs x h hw
  exact ⟨g a, by show d.K w (f (g a)) cs; rw [hfg]; exact h2, by show sm (f (g a)); rw [hfg]; exact h3⟩
end
end Go.Proofs.YtlmeelmjodjfpaaGreatDoor.PB
end
section
namespace Go.Proofs.YtlmeelmjodjfpaaGreatDoor.PB
open Go.RowKit Go.Proofs.YtlmeelmjodjfpaaGreatDoorW.PrintWords
set_option linter.unusedVariables false
set_option linter.unusedSimpArgs false
set_option maxRecDepth 100000
section
variable {H : Type} {enc : TypeId × Value → H} {w : World}
theorem opens_imp {α : Type} {t : TypeId} {d : Kd α} {s s' : α → Prop} (h : Opens enc Tryz.prog w t d s) (hi : ∀ a, s a → s' a) : Opens enc Tryz.prog w t d s' := by
  intro fuel cs x h1 h2
  obtain ⟨a, ha, hs⟩ := h fuel cs x h1 h2
  exact ⟨a, ha, hi a hs⟩
theorem o9 : Opens enc Tryz.prog w 9 Kd.string (fun s => s.size ≤ 140737488351232) := opens_string Tryz.underlying9
theorem o2 : Opens enc Tryz.prog w 2 (Kd.int .i64) (fun n => (Lit.int .i64 n).wf = true) := opens_int (by kernel_rfl)
theorem o160 : Opens enc Tryz.prog w 160 k160 okP :=
  opens_imp (opens_iso (f := fun x : S160 => (x.f0, x.f1)) (fun a => ⟨a.1, a.2⟩) (fun a => rfl) (opens_struct Tryz.underlying160 (by kernel_rfl) (opensF_cons rfl (by kernel_rfl) (opens_int (by kernel_rfl)) (opensF_one rfl (by kernel_rfl) (opens_int (by kernel_rfl)))))) (fun a h => h)
theorem o161 : Opens enc Tryz.prog w 161 k161 (fun v => v.f0.size ≤ 140737488351232 ∧ v.f1.size ≤ 140737488351232) :=
  opens_imp (opens_iso (f := fun x : S161 => (x.f0, x.f1)) (fun a => ⟨a.1, a.2⟩) (fun a => rfl) (opens_struct Tryz.underlying161 (by kernel_rfl) (opensF_cons rfl (by kernel_rfl) o9 (opensF_one rfl (by kernel_rfl) o9)))) (fun a h => h)
theorem o104 : Opens enc Tryz.prog w 104 k104 SmC :=
  opens_imp (opens_iso (f := fun x : S104 => (x.f0, x.f1, x.f2, x.f3, x.f4, x.f5, x.f6)) (fun a => ⟨a.1, a.2.1, a.2.2.1, a.2.2.2.1, a.2.2.2.2.1, a.2.2.2.2.2.1, a.2.2.2.2.2.2⟩) (fun a => rfl)
    (opens_struct Tryz.underlying104 (by kernel_rfl) (opensF_cons rfl (by kernel_rfl) o9 (opensF_cons rfl (by kernel_rfl) o9 (opensF_cons rfl (by kernel_rfl) (opens_slice 9 (t := 24) (by kernel_rfl) (by kernel_rfl) (of_decide_eq_true (by kernel_rfl)) o9)
      (opensF_cons rfl (by kernel_rfl) (opens_slice 160 (t := 101) (by kernel_rfl) (by kernel_rfl) (of_decide_eq_true (by kernel_rfl)) o160) (opensF_cons rfl (by kernel_rfl) o2 (opensF_cons rfl (by kernel_rfl) o2 (opensF_one rfl (by kernel_rfl) (opens_slice 161 (t := 102) (by kernel_rfl) (by kernel_rfl) (of_decide_eq_true (by kernel_rfl)) o161))))))))))
    (fun a h => by
      obtain ⟨h0, h1, ⟨h2, h3⟩, ⟨h4, h5⟩, h6, h7, h8, h9⟩ := h
      exact ⟨Nat.le_trans h0 (by decide), Nat.le_trans h1 (by decide), fun s hs => Nat.le_trans (h3 s hs) (by decide), h5, fun v hv => ⟨Nat.le_trans (h9 v hv).1 (by decide), Nat.le_trans (h9 v hv).2 (by decide)⟩, Nat.le_trans h2 (by decide), Nat.le_trans h4 (by decide), Nat.le_trans h8 (by decide)⟩)
theorem o94 : Opens enc Tryz.prog w 94 k94 SmP :=
  opens_imp (opens_iso (f := fun x : S94 => (x.f0, x.f1)) (fun a => ⟨a.1, a.2⟩) (fun a => rfl) (opens_struct Tryz.underlying94 (by kernel_rfl) (opensF_cons rfl (by kernel_rfl) o9 (opensF_one rfl (by kernel_rfl)
    (opens_iso (f := fun x : S92 => (x.f0, x.f1, x.f2, x.f3, x.f4, x.f5)) (fun a => ⟨a.1, a.2.1, a.2.2.1, a.2.2.2.1, a.2.2.2.2.1, a.2.2.2.2.2⟩) (fun a => rfl)
      (opens_struct Tryz.underlying92 (by kernel_rfl) (opensF_cons rfl (by kernel_rfl) o9 (opensF_cons rfl (by kernel_rfl) o9 (opensF_cons rfl (by kernel_rfl) (opens_int (t := 89) (k := .i64) (by kernel_rfl)) (opensF_cons rfl (by kernel_rfl) o2 (opensF_cons rfl (by kernel_rfl) (opens_bool (by kernel_rfl))
        (opensF_one rfl (by kernel_rfl) (opens_slice 104 (t := 90) Tryz.underlying90 (by kernel_rfl) (of_decide_eq_true (by kernel_rfl)) o104)))))))))))))
    (fun a h => by
      obtain ⟨h0, h1, h2, h3, h4, h5, h6, h7⟩ := h
      exact ⟨Nat.le_trans h0 (by decide), Nat.le_trans h1 (by decide), Nat.le_trans h2 (by decide), h7, Nat.le_trans h6 (by decide)⟩)
/-- A state that a row reads. -/
theorem o28 : Opens enc Tryz.prog w 28 (Kd.pair (Kd.int .u64) (Kd.slice 94 k94)) (fun s => (Lit.int .u64 s.1).wf = true ∧ s.2.length ≤ 140737488351232 ∧ ∀ p ∈ s.2, SmP p) :=
  opens_imp (opens_struct Tryz.underlying28 (by kernel_rfl) (opensF_cons rfl (by kernel_rfl) (opens_int (t := 25) (k := .u64) (by kernel_rfl)) (opensF_one rfl (by kernel_rfl) (opens_slice 94 (t := 26) (by kernel_rfl) (by kernel_rfl) (of_decide_eq_true (by kernel_rfl)) o94)))) (fun a h => h)
theorem open_state {v : Value} {d : DataW H} {ps : List MemPlace} {ts : List TypeId} {ds : List (DataW H)} (hsz : (DataW.weightsEach Tryz.prog ts ds).all (· ≤ reachBytes) = true) (ht : ts[0]? = some 28) (hd : ds[0]? = some d)
    (h : DataW.Trod enc Tryz.prog w 0 (fun _ => true) true 28 v d ps) : ∃ (sq : Nat) (A : Option Addr) (c : Nat) (l : List S94), v.cells.toList = [.int .u64 (sq : Int), .slice A l.length c] ∧ sq < 18446744073709551616 ∧ l.length ≤ c ∧ k94.C w A l.length l ∧ l.length ≤ 140737488351232 ∧ ∀ p ∈ l, SmP p := by
  obtain ⟨fuel, hf⟩ := h
  obtain ⟨⟨n, l⟩, hK, hn, hl, hs⟩ := o28 fuel _ _ hf (fun k hk => by
    have := List.all_eq_true.1 hsz _ (DataW.weights_mem_each ht hd k hk)
    simpa using this)
  obtain ⟨c0, c1, e, h0, A, c, h1, h2, h3⟩ := hK
  have hw : 0 ≤ n ∧ n < 18446744073709551616 := by
    simp [Lit.wf, IntKind.has, IntKind.min, IntKind.max, IntKind.signed, IntKind.bits] at hn
    omega
  refine ⟨n.toNat, A, c, l, ?_, by omega, h2, h3, hl, hs⟩
  rw [e, h1, show c0 = [.int .u64 n] from h0, Int.toNat_of_nonneg hw.1]
  rfl
end
end Go.Proofs.YtlmeelmjodjfpaaGreatDoor.PB
end
