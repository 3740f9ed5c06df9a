/- CkptBursts, part 20 of 24 of its proof: for every input that meets the row's condition (laid, tied) the call returns true and each argument reads behind it as before. -/
import Derived.Test.YtlmeelmjodjfpaaGreatDoorG15
import Derived.Test.YtlmeelmjodjfpaaGreatDoorG12
import Derived.Test.YtlmeelmjodjfpaaGreatDoorG18
import Derived.MapKept
import Derived.ChangeMaps4
import Derived.Test.YtlmeelmjodjfpaaGreatDoorG02
import Derived.Test.YtlmeelmjodjfpaaGreatDoorG04
import Derived.Test.YtlmeelmjodjfpaaGreatDoorG03
section
namespace Go.Proofs.YtlmeelmjodjfpaaGreatDoor.PB
open Go.RowKit Go.Maps Go.Proofs.YtlmeelmjodjfpaaGreatDoorW.PrintWords Go.Proofs.YtlmeelmjodjfpaaGreatDoorW.PrintLast Go.Proofs.YtlmeelmjodjfpaaGreatDoorW.PrintMore
open Fr (tx tx_list tx_size tx_app tx_of)
open Go.Proofs.YtlmeelmjodjfpaaGreatDoor.Op (openP OpenPost open_calls)
set_option linter.unusedVariables false
set_option linter.unusedSimpArgs false
set_option maxHeartbeats 1000000
set_option maxRecDepth 100000
theorem load3.calls (pb : Nat) (p : ByteArray) (W : World) (hc : W.cell? ⟨pb, 0, none⟩ = some (.string p)) (hT : Tabs W) : Calls Tryz.prog 24 #[.pointer (some ⟨pb, 0, none⟩)] W (DecPost W (decT p.data.toList)) := by
  have hba := below_alloc (Below.refl W.heap.size W) (.cells #[.int .u64 0, .slice none 0 0] 28)
  have cD := ckthree_Decode.calls p.data.toList (W.alloc (.cells #[.int .u64 0, .slice none 0 0] 28)) (hT.below hba)
  rw [tx_of] at cD
  have HC := Aside0.mk (cell_stays hba hc)
  have HR := Aside0.mk (blk_new W (.cells #[.int .u64 0, .slice none 0 0] 28))
  have HB := Aside0.mk hba
  have HN := Aside0.mk (show (W.alloc (.cells #[.int .u64 0, .slice none 0 0] 28)).heap.size = W.heap.size + 1 from by simp)
  have c1 := HC.out
  generalize decT p.data.toList = d at cD ⊢
  clear hc hT hba
  go_enter Tryz.func24, Tryz.ntmps24
  go_wp2_with (go_at_call 25; refine cD.mono ?_; rintro x w3 ⟨v, rfl, hr, hb⟩; obtain ⟨A6, c6, rfl⟩ := R_slice hr; have HR3 := Aside0.mk (blk_below HR.out hb); have HB3 := Aside0.mk (below_step HB.out hb); have HRR := Aside0.mk hr; have HB4 := Aside0.mk hb; clear hr hb cD c1; have d0 : w3.cell? ⟨W.heap.size, 0, none⟩ = some (.int .u64 0) := (by rw [blk_cell HR3.out]; rfl); have d1 : w3.cell? ⟨W.heap.size, 1, none⟩ = some (.slice none 0 0) := (by rw [blk_cell HR3.out]; rfl); have y0 := blk_frozen HR3.out 0; have y1 := blk_frozen HR3.out 1)
  have hq := put2_blk HR3.out (.int .u64 (d.1 : Int)) (.slice A6 d.2.1.length c6)
  have p0 := (blk_cell hq 0).trans rfl
  have p1 := (blk_cell hq 1).trans rfl
  unfold put2 at p0 p1
  clear hq d0 d1 y0 y1
  refine bodyPost_ret (v := .tuple #[.agg #[.int .u64 (d.1 : Int), .slice A6 d.2.1.length c6], .int .i64 d.2.2]) (by simp [results, Tryz.results24, go_sem, p0, p1]) rfl ?_
  refine ⟨_, rfl, ?_, put2_below HB3.out (Nat.le_refl _) _ _⟩
  have hr := Kd.R_keep HRR.out (put2_keep w3 W.heap.size (.int .u64 (d.1 : Int)) (.slice A6 d.2.1.length c6)) (fun k hk => by have := HN.out; omega)
  exact Kd.R_mono (Kd.R_lower hr (by rw [HN.out]; omega)) (fun k hk => by have := HN.out; omega)
def rdr (f : Nat) (pb : Nat) : Value := .func (.func f) #[] #[.pointer (some ⟨pb, 0, none⟩)]
def ents (pb : Nat) : Array MapEntry := #[⟨.int .u8 1, rdr 18 pb, 0⟩, ⟨.int .u8 2, rdr 21 pb, 1⟩, ⟨.int .u8 3, rdr 24 pb, 2⟩]
theorem run_ins (W : World) (m : Nat) (es : Array MapEntry) (clock : Nat) (k : Int) (val : Value) (hb : W.heap[m]? = some (.map es clock)) (hn : Instr.findNow (.int .u8) (.int .u8 k) es.toList 0 = some none) :
    ∃ W2, (Instr.mapUpdate 65 (.map (some m)) (.int .u8 k) val).run Tryz.prog W = .ok () W2 ∧ W2.heap[m]? = some (.map (es.push ⟨.int .u8 k, val, clock⟩) (clock + 1)) ∧ KeepBut W W2 m none ∧ ∀ w0 : World, Below w0.heap.size w0 W → w0.heap.size ≤ m → Below w0.heap.size w0 W2 := by
  have hc : (Instr.checkKey false 10000 5 (.int .u8 k)).run Tryz.prog W = .ok () W := MapKept.run_checkKey (k := .int .u8 k) Tryz.underlying5 (by simp [MapKept.IsKey]) false 9999
  refine ⟨{ W with heap := W.heap.setIfInBounds m (.map (es.push ⟨.int .u8 k, val, clock⟩) (clock + 1)) }, ?_, ?_, ?_, ?_⟩
  · simp [Instr.mapUpdate, run_underlying Tryz.underlying65, MapKept.run_getObj_map hb, hc, MapKept.run_findKey Tryz.underlying5 hn, MapKept.run_setObj_map _ hb, Result.andThen]
  · exact (MapKept.heap_set hb).1
  · exact ⟨by simp, fun i _ h2 _ => (MapKept.heap_set hb).2 i h2⟩
  · intro w0 h h2
    exact ⟨h.os, h.tape, h.output, by simpa using h.size, fun i hi => ((MapKept.heap_set hb).2 i (by omega)).trans (h.block i hi)⟩
def readerOf (v pb : Nat) : Value := if v = 1 then rdr 18 pb else if v = 2 then rdr 21 pb else if v = 3 then rdr 24 pb else .nilFunc
def isReader (v : Nat) : Bool := decide (v = 1) || decide (v = 2) || decide (v = 3)
theorem run_get (W : World) (m pb : Nat) (v : Nat) (hb : W.heap[m]? = some (.map (ents pb) 3)) :
    (Instr.lookup 65 (.map (some m)) (.int .u8 (v : Int)) true).run Tryz.prog W = .ok (.tuple #[readerOf v pb, .bool (isReader v)]) W := by
  have hc : ∀ em, (Instr.checkKey em 10000 5 (.int .u8 (v : Int))).run Tryz.prog W = .ok () W := fun em => MapKept.run_checkKey (k := .int .u8 (v : Int)) Tryz.underlying5 (by simp [MapKept.IsKey]) em 9999
  have hz : ∀ W : World, (zeroValue 56).run Tryz.prog W = .ok .nilFunc W := fun W => by kernel_rfl
  have hf : Instr.findNow (.int .u8) (.int .u8 (v : Int)) (ents pb).toList 0 = some (if v = 1 then some (0, rdr 18 pb) else if v = 2 then some (1, rdr 21 pb) else if v = 3 then some (2, rdr 24 pb) else none) := by
    by_cases h1 : v = 1
    · subst h1; rfl
    · have e1 : ((v : Int) == 1) = false := beq_eq_false_iff_ne.2 (by omega)
      by_cases h2 : v = 2
      · subst h2; rfl
      · have e2 : ((v : Int) == 2) = false := beq_eq_false_iff_ne.2 (by omega)
        by_cases h3 : v = 3
        · subst h3; rfl
        · have e3 : ((v : Int) == 3) = false := beq_eq_false_iff_ne.2 (by omega)
          simp [Instr.findNow, Instr.sameNow, ents, e1, e2, e3, h1, h2, h3]
  generalize (v : Int) = n at hc hf ⊢
  have key : ∀ a, Instr.findNow (.int .u8) (.int .u8 n) (ents pb).toList 0 = some a → (Instr.lookup 65 (.map (some m)) (.int .u8 n) true).run Tryz.prog W = .ok (.tuple #[(match a with | some q => q.2 | none => .nilFunc), .bool a.isSome]) W := by
    intro a ha
    cases a with
    | none => simp [Instr.lookup, run_underlying Tryz.underlying65, MapKept.run_getObj_map hb, hc, MapKept.run_findKey Tryz.underlying5 ha, Result.andThen, hz]
    | some q => simp [Instr.lookup, run_underlying Tryz.underlying65, MapKept.run_getObj_map hb, hc, MapKept.run_findKey Tryz.underlying5 ha, Result.andThen]
  rw [key _ hf]
  unfold readerOf isReader
  by_cases h1 : v = 1
  · simp [h1]
  · by_cases h2 : v = 2
    · simp [h2]
    · by_cases h3 : v = 3
      · simp [h3]
      · simp [h1, h2, h3]
/-- The three readers, laid. -/
theorem run_readers (W : World) (pb : Nat) : ∃ W2 W3 W4, (Instr.mapUpdate 65 (.map (some W.heap.size)) (.int .u8 1) (.func (.func 18) #[] #[.pointer (some ⟨pb, 0, none⟩)])).run Tryz.prog (W.alloc (.map #[] 0)) = .ok () W2 ∧
    (Instr.mapUpdate 65 (.map (some W.heap.size)) (.int .u8 2) (.func (.func 21) #[] #[.pointer (some ⟨pb, 0, none⟩)])).run Tryz.prog W2 = .ok () W3 ∧ (Instr.mapUpdate 65 (.map (some W.heap.size)) (.int .u8 3) (.func (.func 24) #[] #[.pointer (some ⟨pb, 0, none⟩)])).run Tryz.prog W3 = .ok () W4 ∧
    W4.heap[W.heap.size]? = some (.map (ents pb) 3) ∧ Below W.heap.size W W4 := by
  have h0 : (W.alloc (.map #[] 0)).heap[W.heap.size]? = some (.map #[] 0) := World.alloc_heap_new W _
  obtain ⟨W2, r2, m2, k2, b2⟩ := run_ins _ _ #[] 0 1 (rdr 18 pb) h0 rfl
  obtain ⟨W3, r3, m3, k3, b3⟩ := run_ins _ _ _ _ 2 (rdr 21 pb) m2 rfl
  obtain ⟨W4, r4, m4, k4, b4⟩ := run_ins _ _ _ _ 3 (rdr 24 pb) m3 rfl
  exact ⟨W2, W3, W4, r2, r3, r4, m4, b4 W (b3 W (b2 W (below_alloc (Below.refl _ _) _) (Nat.le_refl _)) (Nat.le_refl _)) (Nat.le_refl _)⟩
/-- What Load comes to: the state, the version, the error. -/
def LoadPost (w : World) (sq : Nat) (l : List S94) (v c : Int) (x : Ending) (w' : World) : Prop :=
  ∃ u, x = .returned (.tuple #[.agg #[.int .u64 (sq : Int), u], .int .i64 v, .int .i64 c]) ∧ k94.R 94 w' w.heap.size (fun k => w.heap.size ≤ k) u l ∧ Below w.heap.size w w'
theorem load_shut (b : ByteArray) (w : World) (c : Nat) (p : ByteArray) (v : Nat) (hO : ∀ W, Calls Tryz.prog 17 #[.string b] W (OpenPost v p c W)) (hc : c ≠ 0) : Calls Tryz.prog 7 #[.string b] w (LoadPost w 0 [] 0 c) := by
  have hba := below_alloc (Below.refl w.heap.size w) (.cells #[.int .u64 0, .slice none 0 0] 28)
  have HR := Aside0.mk (blk_new w (.cells #[.int .u64 0, .slice none 0 0] 28))
  have HB := Aside0.mk hba
  have hz0 : ((c : Int) == 0) = false := beq_eq_false_iff_ne.2 (by omega)
  have hz1 : ((c : Int) != 0) = true := bne_iff_ne.2 (by omega)
  clear hba hc
  go_enter Tryz.func7, Tryz.ntmps7
  go_wp2_with (go_at_call 17; refine (hO _).mono ?_; rintro x w1 ⟨rfl, hb⟩; have HB1 := Aside0.mk (below_alloc (below_step HB.out hb) (.cells #[.string p] 9)); have HR1 := Aside0.mk (blk_alloc (blk_below HR.out hb) (.cells #[.string p] 9)); clear hb hO HR HB; have d0 : (w1.alloc (.cells #[.string p] 9)).cell? ⟨w.heap.size, 0, none⟩ = some (.int .u64 0) := (by rw [blk_cell HR1.out]; rfl); have d1 : (w1.alloc (.cells #[.string p] 9)).cell? ⟨w.heap.size, 1, none⟩ = some (.slice none 0 0) := (by rw [blk_cell HR1.out]; rfl); have y0 := blk_frozen HR1.out 0; have y1 := blk_frozen HR1.out 1)
  have hq := put2_blk HR1.out (.int .u64 0) (.slice none 0 0)
  have p0 := (blk_cell hq 0).trans rfl
  have p1 := (blk_cell hq 1).trans rfl
  unfold put2 at p0 p1
  clear hq d0 d1 y0 y1
  refine bodyPost_ret (v := .tuple #[.agg #[.int .u64 0, .slice none 0 0], .int .i64 0, .int .i64 (c : Int)]) (by simp [results, Tryz.results7, go_sem, p0, p1]) rfl ?_
  exact ⟨_, rfl, Kd.R_nil k94 94 _ _ _, put2_below HB1.out (Nat.le_refl _) _ _⟩
theorem load_1 (b : ByteArray) (w : World) (p : ByteArray) (v : Nat) (hT : Tabs w) (hO : ∀ W, Calls Tryz.prog 17 #[.string b] W (OpenPost v p 0 W)) (hv : v = 1) (n : Nat) (l : List S94) (er : Int) (cF : ∀ (W : World) (pb : Nat), W.cell? ⟨pb, 0, none⟩ = some (.string p) → Tabs W → Calls Tryz.prog 18 #[.pointer (some ⟨pb, 0, none⟩)] W (DecPost W (n, l, er))) :
    Calls Tryz.prog 7 #[.string b] w (if er = 0 then LoadPost w n l 1 0 else LoadPost w 0 [] 0 er) := by
  have HV := Aside0.mk (show isReader v = true from by simp [isReader, hv])
  have HQ := Aside0.mk (show ∀ pb, readerOf v pb = .func (.func 18) #[] #[.pointer (some ⟨pb, 0, none⟩)] from fun pb => by simp [readerOf, hv, rdr])
  have hv1 : IntKind.i64.wrap (v : Int) = 1 := by rw [hv]; decide +kernel
  have hv2 : wrap64 (v : Int) = 1 := by rw [hv]; decide +kernel
  have CF := Aside0.mk cF
  clear hv cF
  by_cases hd : er = 0
  · rw [if_pos hd]
    subst hd
    have hba := below_alloc (Below.refl w.heap.size w) (.cells #[.int .u64 0, .slice none 0 0] 28)
    have HR := Aside0.mk (blk_new w (.cells #[.int .u64 0, .slice none 0 0] 28))
    have HB := Aside0.mk hba
    have HTT := Aside0.mk hT
    have hmm := fun (W : World) => run_makeMap (P := Tryz.prog) 65 W
    clear hba hT
    go_enter Tryz.func7, Tryz.ntmps7
    go_wp2_with (first | (go_at_call 17; refine (hO _).mono ?_; rintro x w1 ⟨rfl, hb⟩; have HB1 := Aside0.mk (below_alloc (below_step HB.out hb) (.cells #[.string p] 9)); have HR1 := Aside0.mk (blk_alloc (blk_below HR.out hb) (.cells #[.string p] 9)); clear hb hO HR HB; obtain ⟨W2, W3, W4, r2, r3, r4, hm4, hb4⟩ := run_readers (w1.alloc (.cells #[.string p] 9)) w1.heap.size; rw [World_size_alloc2] at r2 r3 r4 hm4; have HM4 := Aside0.mk hm4; have HB4 := Aside0.mk (below_step HB1.out hb4); have HR4 := Aside0.mk (blk_below HR1.out hb4); have HP4 := Aside0.mk (blk_below (blk_new w1 (.cells #[.string p] 9)) hb4); clear hm4 hb4; have hg := run_get W4 _ w1.heap.size v HM4.out; rw [HV.out, HQ.out] at hg) | (go_at_call 18; refine (CF.out _ w1.heap.size (by rw [blk_cell HP4.out]; rfl) (HTT.out.below HB4.out)).mono ?_; rintro x w5 ⟨u, rfl, hr, hb⟩; obtain ⟨A6, c6, rfl⟩ := R_slice hr; have HR5 := Aside0.mk (blk_alloc (blk_below HR4.out hb) (.cells #[.int .u64 (n : Int), .slice A6 l.length c6] 28)); have HB5 := Aside0.mk (below_alloc (below_step HB4.out hb) (.cells #[.int .u64 (n : Int), .slice A6 l.length c6] 28)); have HRW := Aside0.mk (Kd.R_below (Kd.R_mono hr (fun k hk => Nat.le_trans HB4.out.size hk)) (below_alloc (Below.refl _ _) (.cells #[.int .u64 (n : Int), .slice A6 l.length c6] 28))); have HWW := Aside0.mk HB4.out.size; clear hr hb CF HB4 HR4 HP4 HM4; have d0 : (w5.alloc (.cells #[.int .u64 (n : Int), .slice A6 l.length c6] 28)).cell? ⟨w.heap.size, 0, none⟩ = some (.int .u64 0) := (by rw [blk_cell HR5.out]; rfl); have d1 : (w5.alloc (.cells #[.int .u64 (n : Int), .slice A6 l.length c6] 28)).cell? ⟨w.heap.size, 1, none⟩ = some (.slice none 0 0) := (by rw [blk_cell HR5.out]; rfl); have y0 := blk_frozen HR5.out 0; have y1 := blk_frozen HR5.out 1))
    have hq := put2_blk HR5.out (.int .u64 (n : Int)) (.slice A6 l.length c6)
    have p0 := (blk_cell hq 0).trans rfl
    have p1 := (blk_cell hq 1).trans rfl
    unfold put2 at p0 p1
    clear hq d0 d1 y0 y1
    refine bodyPost_ret (v := .tuple #[.agg #[.int .u64 (n : Int), .slice A6 l.length c6], .int .i64 (1), .int .i64 (0)]) (by simp [results, Tryz.results7, go_sem, p0, p1]) rfl ?_
    refine ⟨_, rfl, ?_, put2_below HB5.out (Nat.le_refl _) _ _⟩
    have hr := Kd.R_keep (Kd.R_types HRW.out HR5.out ht94) (put2_keep _ w.heap.size (.int .u64 (n : Int)) (.slice A6 l.length c6)) (fun k hk => hk.2)
    exact Kd.R_lower (Kd.R_mono hr (fun k hk => hk.1)) HWW.out
  · rw [if_neg hd]
    have hz0 : (er == 0) = false := beq_eq_false_iff_ne.2 hd
    have hz1 : (er != 0) = true := bne_iff_ne.2 hd
    clear hd
    have hba := below_alloc (Below.refl w.heap.size w) (.cells #[.int .u64 0, .slice none 0 0] 28)
    have HR := Aside0.mk (blk_new w (.cells #[.int .u64 0, .slice none 0 0] 28))
    have HB := Aside0.mk hba
    have HTT := Aside0.mk hT
    have hmm := fun (W : World) => run_makeMap (P := Tryz.prog) 65 W
    clear hba hT
    go_enter Tryz.func7, Tryz.ntmps7
    go_wp2_with (first | (go_at_call 17; refine (hO _).mono ?_; rintro x w1 ⟨rfl, hb⟩; have HB1 := Aside0.mk (below_alloc (below_step HB.out hb) (.cells #[.string p] 9)); have HR1 := Aside0.mk (blk_alloc (blk_below HR.out hb) (.cells #[.string p] 9)); clear hb hO HR HB; obtain ⟨W2, W3, W4, r2, r3, r4, hm4, hb4⟩ := run_readers (w1.alloc (.cells #[.string p] 9)) w1.heap.size; rw [World_size_alloc2] at r2 r3 r4 hm4; have HM4 := Aside0.mk hm4; have HB4 := Aside0.mk (below_step HB1.out hb4); have HR4 := Aside0.mk (blk_below HR1.out hb4); have HP4 := Aside0.mk (blk_below (blk_new w1 (.cells #[.string p] 9)) hb4); clear hm4 hb4; have hg := run_get W4 _ w1.heap.size v HM4.out; rw [HV.out, HQ.out] at hg) | (go_at_call 18; refine (CF.out _ w1.heap.size (by rw [blk_cell HP4.out]; rfl) (HTT.out.below HB4.out)).mono ?_; rintro x w5 ⟨u, rfl, hr, hb⟩; obtain ⟨A6, c6, rfl⟩ := R_slice hr; have HR5 := Aside0.mk (blk_alloc (blk_below HR4.out hb) (.cells #[.int .u64 (n : Int), .slice A6 l.length c6] 28)); have HB5 := Aside0.mk (below_alloc (below_step HB4.out hb) (.cells #[.int .u64 (n : Int), .slice A6 l.length c6] 28)); have HRW := Aside0.mk (Kd.R_below (Kd.R_mono hr (fun k hk => Nat.le_trans HB4.out.size hk)) (below_alloc (Below.refl _ _) (.cells #[.int .u64 (n : Int), .slice A6 l.length c6] 28))); have HWW := Aside0.mk HB4.out.size; clear hr hb CF HB4 HR4 HP4 HM4; have d0 : (w5.alloc (.cells #[.int .u64 (n : Int), .slice A6 l.length c6] 28)).cell? ⟨w.heap.size, 0, none⟩ = some (.int .u64 0) := (by rw [blk_cell HR5.out]; rfl); have d1 : (w5.alloc (.cells #[.int .u64 (n : Int), .slice A6 l.length c6] 28)).cell? ⟨w.heap.size, 1, none⟩ = some (.slice none 0 0) := (by rw [blk_cell HR5.out]; rfl); have y0 := blk_frozen HR5.out 0; have y1 := blk_frozen HR5.out 1))
    have hq := put2_blk HR5.out (.int .u64 0) (.slice none 0 0)
    have p0 := (blk_cell hq 0).trans rfl
    have p1 := (blk_cell hq 1).trans rfl
    unfold put2 at p0 p1
    clear hq d0 d1 y0 y1
    refine bodyPost_ret (v := .tuple #[.agg #[.int .u64 0, .slice none 0 0], .int .i64 (0), .int .i64 (er)]) (by simp [results, Tryz.results7, go_sem, p0, p1]) rfl ?_
    exact ⟨_, rfl, Kd.R_nil k94 94 _ _ _, put2_below HB5.out (Nat.le_refl _) _ _⟩
theorem load_3 (b : ByteArray) (w : World) (p : ByteArray) (v : Nat) (hT : Tabs w) (hO : ∀ W, Calls Tryz.prog 17 #[.string b] W (OpenPost v p 0 W)) (hv : v = 3) (n : Nat) (l : List S94) (er : Int) (cF : ∀ (W : World) (pb : Nat), W.cell? ⟨pb, 0, none⟩ = some (.string p) → Tabs W → Calls Tryz.prog 24 #[.pointer (some ⟨pb, 0, none⟩)] W (DecPost W (n, l, er))) :
    Calls Tryz.prog 7 #[.string b] w (if er = 0 then LoadPost w n l 3 0 else LoadPost w 0 [] 0 er) := by
  have HV := Aside0.mk (show isReader v = true from by simp [isReader, hv])
  have HQ := Aside0.mk (show ∀ pb, readerOf v pb = .func (.func 24) #[] #[.pointer (some ⟨pb, 0, none⟩)] from fun pb => by simp [readerOf, hv, rdr])
  have hv1 : IntKind.i64.wrap (v : Int) = 3 := by rw [hv]; decide +kernel
  have hv2 : wrap64 (v : Int) = 3 := by rw [hv]; decide +kernel
  have CF := Aside0.mk cF
  clear hv cF
  by_cases hd : er = 0
  · rw [if_pos hd]
    subst hd
    have hba := below_alloc (Below.refl w.heap.size w) (.cells #[.int .u64 0, .slice none 0 0] 28)
    have HR := Aside0.mk (blk_new w (.cells #[.int .u64 0, .slice none 0 0] 28))
    have HB := Aside0.mk hba
    have HTT := Aside0.mk hT
    have hmm := fun (W : World) => run_makeMap (P := Tryz.prog) 65 W
    clear hba hT
    go_enter Tryz.func7, Tryz.ntmps7
    go_wp2_with (first | (go_at_call 17; refine (hO _).mono ?_; rintro x w1 ⟨rfl, hb⟩; have HB1 := Aside0.mk (below_alloc (below_step HB.out hb) (.cells #[.string p] 9)); have HR1 := Aside0.mk (blk_alloc (blk_below HR.out hb) (.cells #[.string p] 9)); clear hb hO HR HB; obtain ⟨W2, W3, W4, r2, r3, r4, hm4, hb4⟩ := run_readers (w1.alloc (.cells #[.string p] 9)) w1.heap.size; rw [World_size_alloc2] at r2 r3 r4 hm4; have HM4 := Aside0.mk hm4; have HB4 := Aside0.mk (below_step HB1.out hb4); have HR4 := Aside0.mk (blk_below HR1.out hb4); have HP4 := Aside0.mk (blk_below (blk_new w1 (.cells #[.string p] 9)) hb4); clear hm4 hb4; have hg := run_get W4 _ w1.heap.size v HM4.out; rw [HV.out, HQ.out] at hg) | (go_at_call 24; refine (CF.out _ w1.heap.size (by rw [blk_cell HP4.out]; rfl) (HTT.out.below HB4.out)).mono ?_; rintro x w5 ⟨u, rfl, hr, hb⟩; obtain ⟨A6, c6, rfl⟩ := R_slice hr; have HR5 := Aside0.mk (blk_alloc (blk_below HR4.out hb) (.cells #[.int .u64 (n : Int), .slice A6 l.length c6] 28)); have HB5 := Aside0.mk (below_alloc (below_step HB4.out hb) (.cells #[.int .u64 (n : Int), .slice A6 l.length c6] 28)); have HRW := Aside0.mk (Kd.R_below (Kd.R_mono hr (fun k hk => Nat.le_trans HB4.out.size hk)) (below_alloc (Below.refl _ _) (.cells #[.int .u64 (n : Int), .slice A6 l.length c6] 28))); have HWW := Aside0.mk HB4.out.size; clear hr hb CF HB4 HR4 HP4 HM4; have d0 : (w5.alloc (.cells #[.int .u64 (n : Int), .slice A6 l.length c6] 28)).cell? ⟨w.heap.size, 0, none⟩ = some (.int .u64 0) := (by rw [blk_cell HR5.out]; rfl); have d1 : (w5.alloc (.cells #[.int .u64 (n : Int), .slice A6 l.length c6] 28)).cell? ⟨w.heap.size, 1, none⟩ = some (.slice none 0 0) := (by rw [blk_cell HR5.out]; rfl); have y0 := blk_frozen HR5.out 0; have y1 := blk_frozen HR5.out 1))
    have hq := put2_blk HR5.out (.int .u64 (n : Int)) (.slice A6 l.length c6)
    have p0 := (blk_cell hq 0).trans rfl
    have p1 := (blk_cell hq 1).trans rfl
    unfold put2 at p0 p1
    clear hq d0 d1 y0 y1
    refine bodyPost_ret (v := .tuple #[.agg #[.int .u64 (n : Int), .slice A6 l.length c6], .int .i64 (3), .int .i64 (0)]) (by simp [results, Tryz.results7, go_sem, p0, p1]) rfl ?_
    refine ⟨_, rfl, ?_, put2_below HB5.out (Nat.le_refl _) _ _⟩
    have hr := Kd.R_keep (Kd.R_types HRW.out HR5.out ht94) (put2_keep _ w.heap.size (.int .u64 (n : Int)) (.slice A6 l.length c6)) (fun k hk => hk.2)
    exact Kd.R_lower (Kd.R_mono hr (fun k hk => hk.1)) HWW.out
  · rw [if_neg hd]
    have hz0 : (er == 0) = false := beq_eq_false_iff_ne.2 hd
    have hz1 : (er != 0) = true := bne_iff_ne.2 hd
    clear hd
    have hba := below_alloc (Below.refl w.heap.size w) (.cells #[.int .u64 0, .slice none 0 0] 28)
    have HR := Aside0.mk (blk_new w (.cells #[.int .u64 0, .slice none 0 0] 28))
    have HB := Aside0.mk hba
    have HTT := Aside0.mk hT
    have hmm := fun (W : World) => run_makeMap (P := Tryz.prog) 65 W
    clear hba hT
    go_enter Tryz.func7, Tryz.ntmps7
    go_wp2_with (first | (go_at_call 17; refine (hO _).mono ?_; rintro x w1 ⟨rfl, hb⟩; have HB1 := Aside0.mk (below_alloc (below_step HB.out hb) (.cells #[.string p] 9)); have HR1 := Aside0.mk (blk_alloc (blk_below HR.out hb) (.cells #[.string p] 9)); clear hb hO HR HB; obtain ⟨W2, W3, W4, r2, r3, r4, hm4, hb4⟩ := run_readers (w1.alloc (.cells #[.string p] 9)) w1.heap.size; rw [World_size_alloc2] at r2 r3 r4 hm4; have HM4 := Aside0.mk hm4; have HB4 := Aside0.mk (below_step HB1.out hb4); have HR4 := Aside0.mk (blk_below HR1.out hb4); have HP4 := Aside0.mk (blk_below (blk_new w1 (.cells #[.string p] 9)) hb4); clear hm4 hb4; have hg := run_get W4 _ w1.heap.size v HM4.out; rw [HV.out, HQ.out] at hg) | (go_at_call 24; refine (CF.out _ w1.heap.size (by rw [blk_cell HP4.out]; rfl) (HTT.out.below HB4.out)).mono ?_; rintro x w5 ⟨u, rfl, hr, hb⟩; obtain ⟨A6, c6, rfl⟩ := R_slice hr; have HR5 := Aside0.mk (blk_alloc (blk_below HR4.out hb) (.cells #[.int .u64 (n : Int), .slice A6 l.length c6] 28)); have HB5 := Aside0.mk (below_alloc (below_step HB4.out hb) (.cells #[.int .u64 (n : Int), .slice A6 l.length c6] 28)); have HRW := Aside0.mk (Kd.R_below (Kd.R_mono hr (fun k hk => Nat.le_trans HB4.out.size hk)) (below_alloc (Below.refl _ _) (.cells #[.int .u64 (n : Int), .slice A6 l.length c6] 28))); have HWW := Aside0.mk HB4.out.size; clear hr hb CF HB4 HR4 HP4 HM4; have d0 : (w5.alloc (.cells #[.int .u64 (n : Int), .slice A6 l.length c6] 28)).cell? ⟨w.heap.size, 0, none⟩ = some (.int .u64 0) := (by rw [blk_cell HR5.out]; rfl); have d1 : (w5.alloc (.cells #[.int .u64 (n : Int), .slice A6 l.length c6] 28)).cell? ⟨w.heap.size, 1, none⟩ = some (.slice none 0 0) := (by rw [blk_cell HR5.out]; rfl); have y0 := blk_frozen HR5.out 0; have y1 := blk_frozen HR5.out 1))
    have hq := put2_blk HR5.out (.int .u64 0) (.slice none 0 0)
    have p0 := (blk_cell hq 0).trans rfl
    have p1 := (blk_cell hq 1).trans rfl
    unfold put2 at p0 p1
    clear hq d0 d1 y0 y1
    refine bodyPost_ret (v := .tuple #[.agg #[.int .u64 0, .slice none 0 0], .int .i64 (0), .int .i64 (er)]) (by simp [results, Tryz.results7, go_sem, p0, p1]) rfl ?_
    exact ⟨_, rfl, Kd.R_nil k94 94 _ _ _, put2_below HB5.out (Nat.le_refl _) _ _⟩
end Go.Proofs.YtlmeelmjodjfpaaGreatDoor.PB
end
section
namespace Go.Proofs.YtlmeelmjodjfpaaGreatDoor.PB
open Go.RowKit Go.Proofs.YtlmeelmjodjfpaaGreatDoorW.PrintWords Go.Proofs.YtlmeelmjodjfpaaGreatDoorW.PrintLast Go.Proofs.YtlmeelmjodjfpaaGreatDoorW.PrintMore
attribute [local go_sem] max2_int min2_int max_two min_two max_three min_three max_four min_four   -- for this text's walks alone
set_option linter.unusedVariables false
set_option linter.unusedSimpArgs false
def bosunlaw19_Small.l0 : Nat → Int → List (S94) → Int → Int → Option (Bool)
  | 0, _, _, _, _ => none
  | k + 1, x3, x7, x8, x9 => if x9 < x8 then (if 0 ≤ x9 then (if x9 < (x7.length : Int) then ((bosunlaw14_Weight.f k ((rd_T94 x7 x9).f1.f0) ((rd_T94 x7 x9).f1.f1) ((rd_T94 x7 x9).f1.f2) ((rd_T94 x7 x9).f1.f3) ((rd_T94 x7 x9).f1.f4) ((rd_T94 x7 x9).f1.f5)).bind fun t235 => (if (wrap64 (x3 + (wrap64 ((wrap64 (10 + (((rd_T94 x7 x9).f0).size : Int))) + t235)))) > 40000 then (some false) else (bosunlaw19_Small.l0 k (wrap64 (x3 + (wrap64 ((wrap64 (10 + (((rd_T94 x7 x9).f0).size : Int))) + t235)))) x7 x8 (wrap64 (x9 + 1))))) else (none)) else (none)) else (some true)
def bosunlaw19_Small.f (k : Nat) (a0_0 : Int) (l0_1 : List (S94)) : Option (Bool) := bosunlaw19_Small.l0 k 0 l0_1 (l0_1.length : Int) 0
theorem bosunlaw19_Small.mono_l : ∀ k, (∀ y0 y1 y2 y3, LeO (bosunlaw19_Small.l0 k y0 y1 y2 y3) (bosunlaw19_Small.l0 (k + 1) y0 y1 y2 y3))
  | 0 => fun _ _ _ _ r h => by simp [bosunlaw19_Small.l0] at h
  | k + 1 => by
    have ih0 := bosunlaw19_Small.mono_l k
    · intro y0 y1 y2 y3
      unfold bosunlaw19_Small.l0
      repeat' first
      | (with_reducible exact ih0 _ _ _ _)
      | (with_reducible exact bosunlaw14_Weight.mono _ _ _ _ _ _ _)
      | (with_reducible exact LeO.refl _)
      | (with_reducible exact LeO.none _)
      | (with_reducible refine LeO.ite ?_ ?_)
      | (with_reducible refine LeO.bind ?_ (fun _ => ?_))
      | exact ih0 _ _ _ _
      | exact bosunlaw14_Weight.mono _ _ _ _ _ _ _
      | exact LeO.none _
      | refine LeO.ite ?_ ?_
      | refine LeO.bind ?_ (fun _ => ?_)
def bosunlaw19_Small.T5 : Bool × List (List Nat × List Nat) := (true, [([], []), ([], []), ([1], [1]), ([2], [2]), ([3], [3]), ([], []), ([5], [5]), ([6], [6]), ([4, 7], [4, 7]), ([0, 8], [0, 8]), ([9, 7, 0, 1, 2, 3, 4, 5, 6, 7, 8, 9], [0, 9])])
def bosunlaw19_Small.B5 : List Nat := [0, 0, 2, 6, 14, 0, 32, 96, 254, 511, 1023]
theorem bosunlaw19_Small.tab5 : rtab .any (opsOf Tryz.f11 5) = bosunlaw19_Small.T5 := by kernel_rfl
theorem bosunlaw19_Small.bits5 : waitsOk bosunlaw19_Small.T5.2 bosunlaw19_Small.B5 = true := by kernel_rfl
set_option maxHeartbeats 8000000 in
set_option maxRecDepth 100000 in
theorem bosunlaw19_Small.calls (k : Nat) (a0_0 : Int) (A0_1 : Option Addr) (c0_1 : Nat) (l0_1 : List (S94)) (r : Bool) (w : World) (hr0_1 : Kd.C k94 w A0_1 l0_1.length l0_1) (hc0_1 : l0_1.length ≤ c0_1) (h : bosunlaw19_Small.f k a0_0 l0_1 = some r) :
    Calls Tryz.prog 11 #[.agg #[.int .u64 a0_0, .slice A0_1 l0_1.length c0_1]] w fun e w' => e = .returned (.bool r) ∧ Below w.heap.size w w' := by
  have hu28 := Tryz.underlying28
  have hu94 := Tryz.underlying94
  have hu92 := Tryz.underlying92
  have HR0_1 := Aside0.mk hr0_1
  have HC0_1 := Aside0.mk hc0_1
  clear hr0_1 hc0_1
  have HB := Aside0.mk (Below.refl w.heap.size w)
  have H : (bosunlaw19_Small.l0 k 0 l0_1 (l0_1.length : Int) 0) = some r := h
  clear h
  have H' := Aside0.mk H
  clear H
  go_enter Tryz.func11, Tryz.ntmps11
  go_wp2_with (first | ((with_reducible refine gate_dst (N := 1) rfl ?_); refine box_event ?hg (N := 1) ?hd (cs := #[.int .u64 a0_0, .slice A0_1 l0_1.length c0_1]) (t := 28) ?hr ?_; (case hd => rfl); (case hg => rfl); (case hr => first | (go_simp; done) | (go_simp; rfl)); intro gb232 hg w2 hbox hb; have n0_ := Aside0.mk (below_step (by repeat (first | (with_reducible first | exact HB.out | apply below_alloc | apply pw_below_drewN | apply below_drew1) | exact HB.out)) hb); have n1_ := Aside0.mk (hbox); have n2_ := Aside0.mk ((by rw [hg]; exact (below_size (by repeat (first | (with_reducible first | exact HB.out | apply below_alloc | apply pw_below_drewN | apply below_drew1) | exact HB.out))) : w.heap.size ≤ gb232)); have n3_ := Aside0.mk ((by rw [hg]; exact (below_size (by repeat (first | (with_reducible first | exact HB.out | apply below_alloc | apply pw_below_drewN | apply below_drew1) | exact HB.out))) : w.heap.size ≤ gb232)); clear HB; have HB := n0_; have BK232 := n1_; have GW232 := n2_; have GE232 := n3_; clear n0_ n1_ n2_ n3_; clear hb hbox hg; have hcz3_0 : w2.cell? ⟨gb232, 0, none⟩ = some (.int .u64 a0_0) := (blk_cell BK232.out 0).trans rfl; have hcz3_1 : w2.cell? ⟨gb232, 1, none⟩ = some (.slice A0_1 l0_1.length c0_1) := (blk_cell BK232.out 1).trans rfl; have hfz3_0 := blk_frozen BK232.out 0; have hfz3_1 := blk_frozen BK232.out 1))
  go_loopg [3, 9] k (fun kq v3 v9 w' => ∃ (x3_1 : Int) (x9_1 : Int), v3 = .int .i64 x3_1 ∧ v9 = .int .i64 x9_1 ∧ Aside0 (bosunlaw19_Small.l0 kq x3_1 l0_1 (l0_1.length : Int) x9_1 = some r) ∧ Aside0 (kq ≤ k) ∧ Aside0 (w'.heap[gb232]? = some (.cells #[.int .u64 a0_0, (.slice A0_1 l0_1.length c0_1)] 28 (0, 0))) ∧ Aside0 (Below w.heap.size w w'))
  case atStart => exact ⟨(0), (0), (by first | rfl | (simp; done) | (simp [*]; done)), (by first | rfl | (simp; done) | (simp [*]; done)), H', ⟨Nat.le_refl _⟩, ⟨by (with_reducible repeat (first | refine blk_drewN ?_ _ | refine blk_drew ?_ | refine blk_alloc ?_ _)); exact BK232.out⟩, ⟨by repeat (first | (with_reducible first | exact HB.out | apply below_alloc | apply pw_below_drewN | apply below_drew1 | refine below_set ?_ GE232.out) | exact HB.out)⟩⟩
  case round =>
    clear H'
    try clear c1
    try clear p2
    try clear hcz3_0
    try clear hcz3_1
    try clear hfz3_0
    try clear hfz3_1
    obtain ⟨x3_1, x9_1, rfl, rfl, HA, HK1, BK232, HB⟩ := hrel
    cases gk with
    | zero => exact absurd HA.out (by simp [bosunlaw19_Small.l0])
    | succ k1 =>
      have H := HA.out
      clear HA
      simp only [bosunlaw19_Small.l0] at H
      by_cases c4 : x9_1 < (l0_1.length : Int)
      · rw [if_pos c4] at H
        have c4b0 : decide (x9_1 < (l0_1.length : Int)) = true := decide_eq_true c4
        clear c4
        by_cases c5 : 0 ≤ x9_1
        · rw [if_pos c5] at H
          have c5b0 : decide (0 ≤ x9_1) = true := decide_eq_true c5
          clear c5
          by_cases c6 : x9_1 < (l0_1.length : Int)
          · rw [if_pos c6] at H
            have c6b0 : decide (x9_1 < (l0_1.length : Int)) = true := decide_eq_true c6
            clear c6
            replace H := Option.bind_eq_some_iff.mp H
            obtain ⟨t235, A70, H⟩ := H
            replace H : (if (wrap64 (x3_1 + (wrap64 ((wrap64 (10 + (((rd_T94 l0_1 x9_1).f0).size : Int))) + t235)))) > 40000 then (some false) else (bosunlaw19_Small.l0 k1 (wrap64 (x3_1 + (wrap64 ((wrap64 (10 + (((rd_T94 l0_1 x9_1).f0).size : Int))) + t235)))) l0_1 (l0_1.length : Int) (wrap64 (x9_1 + 1)))) = some r := H
            have A7 := Aside0.mk A70
            clear A70
            by_cases c8 : (wrap64 (x3_1 + (wrap64 ((wrap64 (10 + (((rd_T94 l0_1 x9_1).f0).size : Int))) + t235)))) > 40000
            · rw [if_pos c8] at H
              have c8b0 : decide (40000 < (wrap64 (x3_1 + (wrap64 ((wrap64 (10 + (((rd_T94 l0_1 x9_1).f0).size : Int))) + t235))))) = true := decide_eq_true c8
              clear c8
              obtain rfl := Option.some.inj H
              have p233 : 0 ≤ (x9_1 : Int) := of_decide_eq_true (by first | (with_reducible assumption) | assumption)
              have q233 : x9_1 < (l0_1.length : Int) := of_decide_eq_true (by first | (with_reducible assumption) | assumption)
              obtain ⟨ad233, A233_6, c233_6, e233, hx233_0, hx233_1, hx233_2, hx233_3, hx233_4, hx233_5, hx233_6, hl233_6, hi233_6⟩ := at_T94 HR0_1.out x9_1 p233 q233
              cases e233
              replace hx233_0 := (HB.out.cell (World.block_lt_of_cell? w _ hx233_0)).trans hx233_0
              replace hx233_1 := (HB.out.cell (World.block_lt_of_cell? w _ hx233_1)).trans hx233_1
              replace hx233_2 := (HB.out.cell (World.block_lt_of_cell? w _ hx233_2)).trans hx233_2
              replace hx233_3 := (HB.out.cell (World.block_lt_of_cell? w _ hx233_3)).trans hx233_3
              replace hx233_4 := (HB.out.cell (World.block_lt_of_cell? w _ hx233_4)).trans hx233_4
              replace hx233_5 := (HB.out.cell (World.block_lt_of_cell? w _ hx233_5)).trans hx233_5
              replace hx233_6 := (HB.out.cell (World.block_lt_of_cell? w _ hx233_6)).trans hx233_6
              have HR233_6 := Aside0.mk hi233_6
              have HC233_6 := Aside0.mk hl233_6
              clear hi233_6 hl233_6
              replace p233 := eq_true p233
              replace q233 := eq_true q233
              try go_wp2_with (first | ((with_reducible refine gate_dst (N := 5) rfl ?_); refine box_event ?hg (N := 5) ?hd (cs := #[.string (⟨#[]⟩ : ByteArray), .string (⟨#[]⟩ : ByteArray), .string (⟨#[]⟩ : ByteArray), .int .i64 0, .int .i64 0, .bool false, .slice none 0 0]) (t := 94) ?hr ?_; (case hd => rfl); (case hg => rfl); (case hr => first | (go_simp; done) | (go_simp; rfl)); intro gb234 hg w9 hbox hb; have n0_ := Aside0.mk (blk_below (g := gb232) (o := .cells #[.int .u64 a0_0, .slice (some ad233) l0_1.length c0_1] 28 (0, 0)) (by (with_reducible repeat (first | refine blk_drewN ?_ _ | refine blk_drew ?_ | refine blk_alloc ?_ _)); exact BK232.out) hb); have n1_ := Aside0.mk (below_step (by repeat (first | (with_reducible first | exact HB.out | apply below_alloc | apply pw_below_drewN | apply below_drew1 | refine below_set ?_ GE232.out) | exact HB.out)) hb); have n2_ := Aside0.mk (hbox); have n3_ := Aside0.mk ((by rw [hg]; exact (below_size (by repeat (first | (with_reducible first | exact HB.out | apply below_alloc | apply pw_below_drewN | apply below_drew1 | refine below_set ?_ GE232.out) | exact HB.out))) : w.heap.size ≤ gb234)); have n4_ := Aside0.mk ((by rw [hg]; exact (below_size (by repeat (first | (with_reducible first | exact HB.out | apply below_alloc | apply pw_below_drewN | apply below_drew1 | refine below_set ?_ GE232.out) | exact HB.out))) : w.heap.size ≤ gb234)); have n5_ := Aside0.mk ((by rw [hg]; exact Nat.ne_of_lt (blk_lt (g := gb232) (o := .cells #[.int .u64 a0_0, .slice (some ad233) l0_1.length c0_1] 28 (0, 0)) (by (with_reducible repeat (first | refine blk_drewN ?_ _ | refine blk_drew ?_ | refine blk_alloc ?_ _)); exact BK232.out)) : gb232 ≠ gb234)); have n6_ := Aside0.mk ((by rw [hg]; exact Nat.ne_of_gt (blk_lt (g := gb232) (o := .cells #[.int .u64 a0_0, .slice (some ad233) l0_1.length c0_1] 28 (0, 0)) (by (with_reducible repeat (first | refine blk_drewN ?_ _ | refine blk_drew ?_ | refine blk_alloc ?_ _)); exact BK232.out)) : gb234 ≠ gb232)); clear BK232; clear HB; have BK232 := n0_; have HB := n1_; have BK234 := n2_; have GW234 := n3_; have GE234 := n4_; have NB232_234 := n5_; have NB234_232 := n6_; clear n0_ n1_ n2_ n3_ n4_ n5_ n6_; clear hb hbox hg; have hnb10 := NB234_232.out; have hnc10 := NB232_234.out; have hcz11_0 : w9.cell? ⟨gb234, 0, none⟩ = some (.string (⟨#[]⟩ : ByteArray)) := (blk_cell BK234.out 0).trans rfl; have hcz11_1 : w9.cell? ⟨gb234, 1, none⟩ = some (.string (⟨#[]⟩ : ByteArray)) := (blk_cell BK234.out 1).trans rfl; have hcz11_2 : w9.cell? ⟨gb234, 2, none⟩ = some (.string (⟨#[]⟩ : ByteArray)) := (blk_cell BK234.out 2).trans rfl; have hcz11_3 : w9.cell? ⟨gb234, 3, none⟩ = some (.int .i64 0) := (blk_cell BK234.out 3).trans rfl; have hcz11_4 : w9.cell? ⟨gb234, 4, none⟩ = some (.int .i64 0) := (blk_cell BK234.out 4).trans rfl; have hcz11_5 : w9.cell? ⟨gb234, 5, none⟩ = some (.bool false) := (blk_cell BK234.out 5).trans rfl; have hcz11_6 : w9.cell? ⟨gb234, 6, none⟩ = some (.slice none 0 0) := (blk_cell BK234.out 6).trans rfl; have hfz11_0 := blk_frozen BK234.out 0; have hfz11_1 := blk_frozen BK234.out 1; have hfz11_2 := blk_frozen BK234.out 2; have hfz11_3 := blk_frozen BK234.out 3; have hfz11_4 := blk_frozen BK234.out 4; have hfz11_5 := blk_frozen BK234.out 5; have hfz11_6 := blk_frozen BK234.out 6))
              have n0_ : Aside0 ((((((((w9.setCell ⟨gb234, 0, none⟩ (.string ((rd_T94 l0_1 x9_1).f0))).setCell ⟨gb234, 1, none⟩ (.string ((rd_T94 l0_1 x9_1).f1.f0))).setCell ⟨gb234, 2, none⟩ (.string ((rd_T94 l0_1 x9_1).f1.f1))).setCell ⟨gb234, 3, none⟩ (.int .i64 ((rd_T94 l0_1 x9_1).f1.f2))).setCell ⟨gb234, 4, none⟩ (.int .i64 ((rd_T94 l0_1 x9_1).f1.f3))).setCell ⟨gb234, 5, none⟩ (.bool ((rd_T94 l0_1 x9_1).f1.f4))).setCell ⟨gb234, 6, none⟩ (.slice A233_6 ((rd_T94 l0_1 x9_1).f1.f5).length c233_6)).heap[gb232]? = some (.cells #[.int .u64 a0_0, .slice (some ad233) l0_1.length c0_1] 28 (0, 0))) := ⟨by (with_reducible repeat (first | refine blk_drewN ?_ _ | refine blk_drew ?_ | refine blk_alloc ?_ _)); refine blk_far ?_ NB232_234.out _; (with_reducible repeat (first | refine blk_drewN ?_ _ | refine blk_drew ?_ | refine blk_alloc ?_ _)); refine blk_far ?_ NB232_234.out _; (with_reducible repeat (first | refine blk_drewN ?_ _ | refine blk_drew ?_ | refine blk_alloc ?_ _)); refine blk_far ?_ NB232_234.out _; (with_reducible repeat (first | refine blk_drewN ?_ _ | refine blk_drew ?_ | refine blk_alloc ?_ _)); refine blk_far ?_ NB232_234.out _; (with_reducible repeat (first | refine blk_drewN ?_ _ | refine blk_drew ?_ | refine blk_alloc ?_ _)); refine blk_far ?_ NB232_234.out _; (with_reducible repeat (first | refine blk_drewN ?_ _ | refine blk_drew ?_ | refine blk_alloc ?_ _)); refine blk_far ?_ NB232_234.out _; (with_reducible repeat (first | refine blk_drewN ?_ _ | refine blk_drew ?_ | refine blk_alloc ?_ _)); refine blk_far ?_ NB232_234.out _; (with_reducible repeat (first | refine blk_drewN ?_ _ | refine blk_drew ?_ | refine blk_alloc ?_ _)); exact BK232.out⟩
              have n1_ : Aside0 ((((((((w9.setCell ⟨gb234, 0, none⟩ (.string ((rd_T94 l0_1 x9_1).f0))).setCell ⟨gb234, 1, none⟩ (.string ((rd_T94 l0_1 x9_1).f1.f0))).setCell ⟨gb234, 2, none⟩ (.string ((rd_T94 l0_1 x9_1).f1.f1))).setCell ⟨gb234, 3, none⟩ (.int .i64 ((rd_T94 l0_1 x9_1).f1.f2))).setCell ⟨gb234, 4, none⟩ (.int .i64 ((rd_T94 l0_1 x9_1).f1.f3))).setCell ⟨gb234, 5, none⟩ (.bool ((rd_T94 l0_1 x9_1).f1.f4))).setCell ⟨gb234, 6, none⟩ (.slice A233_6 ((rd_T94 l0_1 x9_1).f1.f5).length c233_6)).heap[gb234]? = some (.cells #[.string ((rd_T94 l0_1 x9_1).f0), .string ((rd_T94 l0_1 x9_1).f1.f0), .string ((rd_T94 l0_1 x9_1).f1.f1), .int .i64 ((rd_T94 l0_1 x9_1).f1.f2), .int .i64 ((rd_T94 l0_1 x9_1).f1.f3), .bool ((rd_T94 l0_1 x9_1).f1.f4), .slice A233_6 ((rd_T94 l0_1 x9_1).f1.f5).length c233_6] 94 (0, 0))) := ⟨by (with_reducible repeat (first | refine blk_drewN ?_ _ | refine blk_drew ?_ | refine blk_alloc ?_ _)); refine blk_put (cs := #[.string ((rd_T94 l0_1 x9_1).f0), .string ((rd_T94 l0_1 x9_1).f1.f0), .string ((rd_T94 l0_1 x9_1).f1.f1), .int .i64 ((rd_T94 l0_1 x9_1).f1.f2), .int .i64 ((rd_T94 l0_1 x9_1).f1.f3), .bool ((rd_T94 l0_1 x9_1).f1.f4), .slice none 0 0]) ?_ 6 _ rfl; (with_reducible repeat (first | refine blk_drewN ?_ _ | refine blk_drew ?_ | refine blk_alloc ?_ _)); refine blk_put (cs := #[.string ((rd_T94 l0_1 x9_1).f0), .string ((rd_T94 l0_1 x9_1).f1.f0), .string ((rd_T94 l0_1 x9_1).f1.f1), .int .i64 ((rd_T94 l0_1 x9_1).f1.f2), .int .i64 ((rd_T94 l0_1 x9_1).f1.f3), .bool false, .slice none 0 0]) ?_ 5 _ rfl; (with_reducible repeat (first | refine blk_drewN ?_ _ | refine blk_drew ?_ | refine blk_alloc ?_ _)); refine blk_put (cs := #[.string ((rd_T94 l0_1 x9_1).f0), .string ((rd_T94 l0_1 x9_1).f1.f0), .string ((rd_T94 l0_1 x9_1).f1.f1), .int .i64 ((rd_T94 l0_1 x9_1).f1.f2), .int .i64 0, .bool false, .slice none 0 0]) ?_ 4 _ rfl; (with_reducible repeat (first | refine blk_drewN ?_ _ | refine blk_drew ?_ | refine blk_alloc ?_ _)); refine blk_put (cs := #[.string ((rd_T94 l0_1 x9_1).f0), .string ((rd_T94 l0_1 x9_1).f1.f0), .string ((rd_T94 l0_1 x9_1).f1.f1), .int .i64 0, .int .i64 0, .bool false, .slice none 0 0]) ?_ 3 _ rfl; (with_reducible repeat (first | refine blk_drewN ?_ _ | refine blk_drew ?_ | refine blk_alloc ?_ _)); refine blk_put (cs := #[.string ((rd_T94 l0_1 x9_1).f0), .string ((rd_T94 l0_1 x9_1).f1.f0), .string (⟨#[]⟩ : ByteArray), .int .i64 0, .int .i64 0, .bool false, .slice none 0 0]) ?_ 2 _ rfl; (with_reducible repeat (first | refine blk_drewN ?_ _ | refine blk_drew ?_ | refine blk_alloc ?_ _)); refine blk_put (cs := #[.string ((rd_T94 l0_1 x9_1).f0), .string (⟨#[]⟩ : ByteArray), .string (⟨#[]⟩ : ByteArray), .int .i64 0, .int .i64 0, .bool false, .slice none 0 0]) ?_ 1 _ rfl; (with_reducible repeat (first | refine blk_drewN ?_ _ | refine blk_drew ?_ | refine blk_alloc ?_ _)); refine blk_put (cs := #[.string (⟨#[]⟩ : ByteArray), .string (⟨#[]⟩ : ByteArray), .string (⟨#[]⟩ : ByteArray), .int .i64 0, .int .i64 0, .bool false, .slice none 0 0]) ?_ 0 _ rfl; (with_reducible repeat (first | refine blk_drewN ?_ _ | refine blk_drew ?_ | refine blk_alloc ?_ _)); exact BK234.out⟩
              have n2_ : Aside0 (Below w.heap.size w (((((((w9.setCell ⟨gb234, 0, none⟩ (.string ((rd_T94 l0_1 x9_1).f0))).setCell ⟨gb234, 1, none⟩ (.string ((rd_T94 l0_1 x9_1).f1.f0))).setCell ⟨gb234, 2, none⟩ (.string ((rd_T94 l0_1 x9_1).f1.f1))).setCell ⟨gb234, 3, none⟩ (.int .i64 ((rd_T94 l0_1 x9_1).f1.f2))).setCell ⟨gb234, 4, none⟩ (.int .i64 ((rd_T94 l0_1 x9_1).f1.f3))).setCell ⟨gb234, 5, none⟩ (.bool ((rd_T94 l0_1 x9_1).f1.f4))).setCell ⟨gb234, 6, none⟩ (.slice A233_6 ((rd_T94 l0_1 x9_1).f1.f5).length c233_6))) := ⟨by repeat (first | (with_reducible first | exact HB.out | apply below_alloc | apply pw_below_drewN | apply below_drew1 | refine below_set ?_ GE232.out | refine below_set ?_ GE234.out) | exact HB.out)⟩
              (try clear BK232)
              (try clear BK234)
              (try clear HB)
              generalize (((((((w9.setCell ⟨gb234, 0, none⟩ (.string ((rd_T94 l0_1 x9_1).f0))).setCell ⟨gb234, 1, none⟩ (.string ((rd_T94 l0_1 x9_1).f1.f0))).setCell ⟨gb234, 2, none⟩ (.string ((rd_T94 l0_1 x9_1).f1.f1))).setCell ⟨gb234, 3, none⟩ (.int .i64 ((rd_T94 l0_1 x9_1).f1.f2))).setCell ⟨gb234, 4, none⟩ (.int .i64 ((rd_T94 l0_1 x9_1).f1.f3))).setCell ⟨gb234, 5, none⟩ (.bool ((rd_T94 l0_1 x9_1).f1.f4))).setCell ⟨gb234, 6, none⟩ (.slice A233_6 ((rd_T94 l0_1 x9_1).f1.f5).length c233_6)) = w12 at n0_ n1_ n2_ ⊢
              have BK232 := n0_
              have BK234 := n1_
              have HB := n2_
              clear n0_ n1_ n2_
              have n0_ := Aside0.mk (blk_drew BK232.out)
              have n1_ := Aside0.mk (blk_drew BK234.out)
              have n2_ := Aside0.mk (below_drew1 HB.out)
              clear BK232
              clear BK234
              clear HB
              have BK232 := n0_
              have BK234 := n1_
              have HB := n2_
              clear n0_ n1_ n2_
              refine start_ (n := 11) (S := fun w' => w'.cell? ⟨gb234, 0, none⟩ = some (.string ((rd_T94 l0_1 x9_1).f0)) ∧ w'.cell? ⟨gb234, 1, none⟩ = some (.string ((rd_T94 l0_1 x9_1).f1.f0)) ∧ w'.cell? ⟨gb234, 2, none⟩ = some (.string ((rd_T94 l0_1 x9_1).f1.f1)) ∧ w'.cell? ⟨gb234, 3, none⟩ = some (.int .i64 ((rd_T94 l0_1 x9_1).f1.f2)) ∧ w'.cell? ⟨gb234, 4, none⟩ = some (.int .i64 ((rd_T94 l0_1 x9_1).f1.f3)) ∧ w'.cell? ⟨gb234, 5, none⟩ = some (.bool ((rd_T94 l0_1 x9_1).f1.f4)) ∧ w'.cell? ⟨gb234, 6, none⟩ = some (.slice A233_6 ((rd_T94 l0_1 x9_1).f1.f5).length c233_6)) (ds := []) #[false, false, false, false, false, false, false, false, false, false, false] (by kernel_rfl) rfl rfl ⟨(blk_cell BK234.out 0).trans rfl, (blk_cell BK234.out 1).trans rfl, (blk_cell BK234.out 2).trans rfl, (blk_cell BK234.out 3).trans rfl, (blk_cell BK234.out 4).trans rfl, (blk_cell BK234.out 5).trans rfl, (blk_cell BK234.out 6).trans rfl⟩ (fun hHeld => ?_); refine with_tabW bosunlaw19_Small.tab5 bosunlaw19_Small.bits5 (fun HT_ HW_ => ?_)
              generalize w12.drew = w13 at BK232 BK234 HB hHeld ⊢
              refine pure_ (i := 0) (N := some 13) (v := ?_) (a' := ?_) #[true, false, false, false, false, false, false, false, false, false, false] rfl rfl (any_of HT_.out (by kernel_rfl)) (fun _ _ _ h => h) (Or.inl ⟨by rfl, ?_⟩) ?_ ?_
              rotate_left
              · intro w'
                go_simp
                with_reducible rfl
              rotate_left
              · simp only [Act.put, List.setIfInBounds_toArray, List.set_cons_zero, List.set_cons_succ, i64_w, i32_w]
                rfl
              refine pure_ (i := 1) (N := some 14) (v := ?_) (a' := ?_) #[true, true, false, false, false, false, false, false, false, false, false] rfl rfl (any_of HT_.out (by kernel_rfl)) (fun _ _ _ h => h) (Or.inl ⟨by rfl, ?_⟩) ?_ ?_
              rotate_left
              · intro w'
                go_simp
                with_reducible rfl
              rotate_left
              · simp only [Act.put, List.setIfInBounds_toArray, List.set_cons_zero, List.set_cons_succ, i64_w, i32_w]
                rfl
              refine pure_ (i := 5) (N := some 18) (v := ?_) (a' := ?_) #[true, true, false, false, false, true, false, false, false, false, false] rfl rfl (any_of HT_.out (by kernel_rfl)) (fun _ _ _ h => h) (Or.inl ⟨by rfl, ?_⟩) ?_ ?_
              rotate_left
              · intro w'
                go_simp
                with_reducible rfl
              rotate_left
              · simp only [Act.put, List.setIfInBounds_toArray, List.set_cons_zero, List.set_cons_succ, i64_w, i32_w]
                rfl
              refine take_ (i := 2) (N := some 15) (v := ?_) (a' := ?_) #[true, true, true, false, false, true, false, false, false, false, false] rfl rfl (take_ofW HT_.out HW_.out (by kernel_rfl)) (fun _ _ _ h => h) (Or.inl ⟨by rfl, ?_⟩) hHeld ?_ ?_
              rotate_left
              · rintro w' ⟨s0, s1, s2, s3, s4, s5, s6⟩
                go_simp
                with_reducible rfl
              rotate_left
              · simp only [Act.put, List.setIfInBounds_toArray, List.set_cons_zero, List.set_cons_succ, i64_w, i32_w]
                rfl
              refine pure_ (i := 3) (N := some 16) (v := ?_) (a' := ?_) #[true, true, true, true, false, true, false, false, false, false, false] rfl rfl (any_of HT_.out (by kernel_rfl)) (fun _ _ _ h => h) (Or.inl ⟨by rfl, ?_⟩) ?_ ?_
              rotate_left
              · intro w'
                go_simp
                with_reducible rfl
              rotate_left
              · simp only [Act.put, List.setIfInBounds_toArray, List.set_cons_zero, List.set_cons_succ, i64_w, i32_w]
                rfl
              refine pure_ (i := 4) (N := some 17) (v := ?_) (a' := ?_) #[true, true, true, true, true, true, false, false, false, false, false] rfl rfl (any_of HT_.out (by kernel_rfl)) (fun _ _ _ h => h) (Or.inl ⟨by rfl, ?_⟩) ?_ ?_
              rotate_left
              · intro w'
                go_simp
                with_reducible rfl
              rotate_left
              · simp only [Act.put, List.setIfInBounds_toArray, List.set_cons_zero, List.set_cons_succ, i64_w, i32_w]
                rfl
              refine take_ (i := 6) (N := some 19) (v := ?_) (a' := ?_) #[true, true, true, true, true, true, true, false, false, false, false] rfl rfl (take_ofW HT_.out HW_.out (by kernel_rfl)) (fun _ _ _ h => h) (Or.inl ⟨by rfl, ?_⟩) hHeld ?_ ?_
              rotate_left
              · rintro w' ⟨s0, s1, s2, s3, s4, s5, s6⟩
                go_simp
                with_reducible rfl
              rotate_left
              · simp only [Act.put, List.setIfInBounds_toArray, List.set_cons_zero, List.set_cons_succ, i64_w, i32_w]
                rfl
              refine one_ (i := 7) (N := some 20) #[true, true, true, true, true, true, true, true, false, false, false] rfl rfl (one_of HT_.out (by kernel_rfl)) (by decide) (fun K hK => ?_)
              refine goes_ Tryz.func34 (by kernel_rfl) rfl #[.agg #[.string ((rd_T94 l0_1 x9_1).f1.f0), .string ((rd_T94 l0_1 x9_1).f1.f1), .int .i64 ((rd_T94 l0_1 x9_1).f1.f2), .int .i64 ((rd_T94 l0_1 x9_1).f1.f3), .bool ((rd_T94 l0_1 x9_1).f1.f4), .slice A233_6 ((rd_T94 l0_1 x9_1).f1.f5).length c233_6]] (by rfl) rfl rfl (by (try simp only [List.map_toArray, List.map_cons, List.map_nil]); first | done | rfl | (simp only [List.length_drop, List.length_take]; rfl) | (simp (disch := ((try simp only [decide_eq_true_eq, decide_eq_false_iff_not] at *); omega)) only [IntWalk.u64_in, IntWalk.u32_in, IntWalk.u16_in, IntWalk.u8_in, IntWalk.i64_in] <;> rfl)) ?_
              with_reducible refine (bosunlaw14_Weight.calls k1 ((rd_T94 l0_1 x9_1).f1.f0) ((rd_T94 l0_1 x9_1).f1.f1) ((rd_T94 l0_1 x9_1).f1.f2) ((rd_T94 l0_1 x9_1).f1.f3) ((rd_T94 l0_1 x9_1).f1.f4) _ _ ((rd_T94 l0_1 x9_1).f1.f5) t235 _ ?side1 ?side2 A7.out).mono ?_
              (case side1 => repeat (first | exact (Kd.C_below HR233_6.out HB.out) | (with_reducible refine Kd.C_alloc ?_ _) | (with_reducible refine Kd.C_drewN ?_ _) | (with_reducible refine Kd.C_drew ?_)))
              (case side2 => exact HC233_6.out)
              rintro e w14 ⟨rfl, hb⟩
              refine ⟨_, rfl, ?_⟩
              have n0_ := Aside0.mk (blk_below (g := gb232) (o := .cells #[.int .u64 a0_0, .slice (some ad233) l0_1.length c0_1] 28 (0, 0)) (by (with_reducible repeat (first | refine blk_drewN ?_ _ | refine blk_drew ?_ | refine blk_alloc ?_ _)); exact BK232.out) hb)
              have n1_ := Aside0.mk (blk_below (g := gb234) (o := .cells #[.string ((rd_T94 l0_1 x9_1).f0), .string ((rd_T94 l0_1 x9_1).f1.f0), .string ((rd_T94 l0_1 x9_1).f1.f1), .int .i64 ((rd_T94 l0_1 x9_1).f1.f2), .int .i64 ((rd_T94 l0_1 x9_1).f1.f3), .bool ((rd_T94 l0_1 x9_1).f1.f4), .slice A233_6 ((rd_T94 l0_1 x9_1).f1.f5).length c233_6] 94 (0, 0)) (by (with_reducible repeat (first | refine blk_drewN ?_ _ | refine blk_drew ?_ | refine blk_alloc ?_ _)); exact BK234.out) hb)
              have n2_ := Aside0.mk (below_step (by repeat (first | (with_reducible first | exact HB.out | apply below_alloc | apply pw_below_drewN | apply below_drew1 | refine below_set ?_ GE232.out | refine below_set ?_ GE234.out) | exact HB.out)) hb)
              clear BK232
              clear BK234
              clear HB
              have BK232 := n0_
              have BK234 := n1_
              have HB := n2_
              clear n0_ n1_ n2_
              (try clear hb)
              (try clear hb2)
              (try clear hk)
              (try clear hi)
              refine hK.out _ _ ⟨(blk_cell BK234.out 0).trans rfl, (blk_cell BK234.out 1).trans rfl, (blk_cell BK234.out 2).trans rfl, (blk_cell BK234.out 3).trans rfl, (blk_cell BK234.out 4).trans rfl, (blk_cell BK234.out 5).trans rfl, (blk_cell BK234.out 6).trans rfl⟩ (fun hHeld => ?_)
              clear hK K
              refine norm_ (a' := ?_) ?_ ?_
              rotate_left
              · show Act.put _ (some 20) _ = _
                simp only [Act.put, List.setIfInBounds_toArray, List.set_cons_zero, List.set_cons_succ, i64_w, i32_w]
                rfl
              refine pure_ (i := 8) (N := some 21) (v := ?_) (a' := ?_) #[true, true, true, true, true, true, true, true, true, false, false] rfl rfl (any_of HT_.out (by kernel_rfl)) (fun _ _ _ h => h) (Or.inl ⟨by rfl, ?_⟩) ?_ ?_
              rotate_left
              · intro w'
                go_simp
                with_reducible rfl
              rotate_left
              · simp only [Act.put, List.setIfInBounds_toArray, List.set_cons_zero, List.set_cons_succ, i64_w, i32_w]
                rfl
              refine pure_ (i := 9) (N := some 22) (v := ?_) (a' := ?_) #[true, true, true, true, true, true, true, true, true, true, false] rfl rfl (any_of HT_.out (by kernel_rfl)) (fun _ _ _ h => h) (Or.inl ⟨by rfl, ?_⟩) ?_ ?_
              rotate_left
              · intro w'
                go_simp
                with_reducible rfl
              rotate_left
              · simp only [Act.put, List.setIfInBounds_toArray, List.set_cons_zero, List.set_cons_succ, i64_w, i32_w]
                rfl
              refine pure_ (i := 10) (N := some 3) (v := ?_) (a' := ?_) #[true, true, true, true, true, true, true, true, true, true, true] rfl rfl (any_of HT_.out (by kernel_rfl)) (fun _ _ _ h => h) (Or.inl ⟨by rfl, ?_⟩) ?_ ?_
              rotate_left
              · intro w'
                go_simp
                with_reducible rfl
              rotate_left
              · simp only [Act.put, List.setIfInBounds_toArray, List.set_cons_zero, List.set_cons_succ, i64_w, i32_w]
                rfl
              refine done_ (done_of HT_.out (by kernel_rfl)) ?_
              try go_wp2
              go_ret
              exact ⟨by first | rfl | (simp [errW_none, errW_some] <;> rfl) | (simp [*, errW_none, errW_some] <;> rfl), by repeat (first | (with_reducible first | exact HB.out | apply below_alloc | apply pw_below_drewN | apply below_drew1 | refine below_set ?_ GE232.out | refine below_set ?_ GE234.out) | exact HB.out)⟩
            · rw [if_neg c8] at H
              have c8b0 : decide (40000 < (wrap64 (x3_1 + (wrap64 ((wrap64 (10 + (((rd_T94 l0_1 x9_1).f0).size : Int))) + t235))))) = false := decide_eq_false c8
              clear c8
              have H' := Aside0.mk H
              clear H
              have p233 : 0 ≤ (x9_1 : Int) := of_decide_eq_true (by first | (with_reducible assumption) | assumption)
              have q233 : x9_1 < (l0_1.length : Int) := of_decide_eq_true (by first | (with_reducible assumption) | assumption)
              obtain ⟨ad233, A233_6, c233_6, e233, hx233_0, hx233_1, hx233_2, hx233_3, hx233_4, hx233_5, hx233_6, hl233_6, hi233_6⟩ := at_T94 HR0_1.out x9_1 p233 q233
              cases e233
              replace hx233_0 := (HB.out.cell (World.block_lt_of_cell? w _ hx233_0)).trans hx233_0
              replace hx233_1 := (HB.out.cell (World.block_lt_of_cell? w _ hx233_1)).trans hx233_1
              replace hx233_2 := (HB.out.cell (World.block_lt_of_cell? w _ hx233_2)).trans hx233_2
              replace hx233_3 := (HB.out.cell (World.block_lt_of_cell? w _ hx233_3)).trans hx233_3
              replace hx233_4 := (HB.out.cell (World.block_lt_of_cell? w _ hx233_4)).trans hx233_4
              replace hx233_5 := (HB.out.cell (World.block_lt_of_cell? w _ hx233_5)).trans hx233_5
              replace hx233_6 := (HB.out.cell (World.block_lt_of_cell? w _ hx233_6)).trans hx233_6
              have HR233_6 := Aside0.mk hi233_6
              have HC233_6 := Aside0.mk hl233_6
              clear hi233_6 hl233_6
              replace p233 := eq_true p233
              replace q233 := eq_true q233
              try go_wp2_with (first | ((with_reducible refine gate_dst (N := 5) rfl ?_); refine box_event ?hg (N := 5) ?hd (cs := #[.string (⟨#[]⟩ : ByteArray), .string (⟨#[]⟩ : ByteArray), .string (⟨#[]⟩ : ByteArray), .int .i64 0, .int .i64 0, .bool false, .slice none 0 0]) (t := 94) ?hr ?_; (case hd => rfl); (case hg => rfl); (case hr => first | (go_simp; done) | (go_simp; rfl)); intro gb234 hg w15 hbox hb; have n0_ := Aside0.mk (blk_below (g := gb232) (o := .cells #[.int .u64 a0_0, .slice (some ad233) l0_1.length c0_1] 28 (0, 0)) (by (with_reducible repeat (first | refine blk_drewN ?_ _ | refine blk_drew ?_ | refine blk_alloc ?_ _)); exact BK232.out) hb); have n1_ := Aside0.mk (below_step (by repeat (first | (with_reducible first | exact HB.out | apply below_alloc | apply pw_below_drewN | apply below_drew1 | refine below_set ?_ GE232.out) | exact HB.out)) hb); have n2_ := Aside0.mk (hbox); have n3_ := Aside0.mk ((by rw [hg]; exact (below_size (by repeat (first | (with_reducible first | exact HB.out | apply below_alloc | apply pw_below_drewN | apply below_drew1 | refine below_set ?_ GE232.out) | exact HB.out))) : w.heap.size ≤ gb234)); have n4_ := Aside0.mk ((by rw [hg]; exact (below_size (by repeat (first | (with_reducible first | exact HB.out | apply below_alloc | apply pw_below_drewN | apply below_drew1 | refine below_set ?_ GE232.out) | exact HB.out))) : w.heap.size ≤ gb234)); have n5_ := Aside0.mk ((by rw [hg]; exact Nat.ne_of_lt (blk_lt (g := gb232) (o := .cells #[.int .u64 a0_0, .slice (some ad233) l0_1.length c0_1] 28 (0, 0)) (by (with_reducible repeat (first | refine blk_drewN ?_ _ | refine blk_drew ?_ | refine blk_alloc ?_ _)); exact BK232.out)) : gb232 ≠ gb234)); have n6_ := Aside0.mk ((by rw [hg]; exact Nat.ne_of_gt (blk_lt (g := gb232) (o := .cells #[.int .u64 a0_0, .slice (some ad233) l0_1.length c0_1] 28 (0, 0)) (by (with_reducible repeat (first | refine blk_drewN ?_ _ | refine blk_drew ?_ | refine blk_alloc ?_ _)); exact BK232.out)) : gb234 ≠ gb232)); clear BK232; clear HB; have BK232 := n0_; have HB := n1_; have BK234 := n2_; have GW234 := n3_; have GE234 := n4_; have NB232_234 := n5_; have NB234_232 := n6_; clear n0_ n1_ n2_ n3_ n4_ n5_ n6_; clear hb hbox hg; have hnb16 := NB234_232.out; have hnc16 := NB232_234.out; have hcz17_0 : w15.cell? ⟨gb234, 0, none⟩ = some (.string (⟨#[]⟩ : ByteArray)) := (blk_cell BK234.out 0).trans rfl; have hcz17_1 : w15.cell? ⟨gb234, 1, none⟩ = some (.string (⟨#[]⟩ : ByteArray)) := (blk_cell BK234.out 1).trans rfl; have hcz17_2 : w15.cell? ⟨gb234, 2, none⟩ = some (.string (⟨#[]⟩ : ByteArray)) := (blk_cell BK234.out 2).trans rfl; have hcz17_3 : w15.cell? ⟨gb234, 3, none⟩ = some (.int .i64 0) := (blk_cell BK234.out 3).trans rfl; have hcz17_4 : w15.cell? ⟨gb234, 4, none⟩ = some (.int .i64 0) := (blk_cell BK234.out 4).trans rfl; have hcz17_5 : w15.cell? ⟨gb234, 5, none⟩ = some (.bool false) := (blk_cell BK234.out 5).trans rfl; have hcz17_6 : w15.cell? ⟨gb234, 6, none⟩ = some (.slice none 0 0) := (blk_cell BK234.out 6).trans rfl; have hfz17_0 := blk_frozen BK234.out 0; have hfz17_1 := blk_frozen BK234.out 1; have hfz17_2 := blk_frozen BK234.out 2; have hfz17_3 := blk_frozen BK234.out 3; have hfz17_4 := blk_frozen BK234.out 4; have hfz17_5 := blk_frozen BK234.out 5; have hfz17_6 := blk_frozen BK234.out 6))
              have n0_ : Aside0 ((((((((w15.setCell ⟨gb234, 0, none⟩ (.string ((rd_T94 l0_1 x9_1).f0))).setCell ⟨gb234, 1, none⟩ (.string ((rd_T94 l0_1 x9_1).f1.f0))).setCell ⟨gb234, 2, none⟩ (.string ((rd_T94 l0_1 x9_1).f1.f1))).setCell ⟨gb234, 3, none⟩ (.int .i64 ((rd_T94 l0_1 x9_1).f1.f2))).setCell ⟨gb234, 4, none⟩ (.int .i64 ((rd_T94 l0_1 x9_1).f1.f3))).setCell ⟨gb234, 5, none⟩ (.bool ((rd_T94 l0_1 x9_1).f1.f4))).setCell ⟨gb234, 6, none⟩ (.slice A233_6 ((rd_T94 l0_1 x9_1).f1.f5).length c233_6)).heap[gb232]? = some (.cells #[.int .u64 a0_0, .slice (some ad233) l0_1.length c0_1] 28 (0, 0))) := ⟨by (with_reducible repeat (first | refine blk_drewN ?_ _ | refine blk_drew ?_ | refine blk_alloc ?_ _)); refine blk_far ?_ NB232_234.out _; (with_reducible repeat (first | refine blk_drewN ?_ _ | refine blk_drew ?_ | refine blk_alloc ?_ _)); refine blk_far ?_ NB232_234.out _; (with_reducible repeat (first | refine blk_drewN ?_ _ | refine blk_drew ?_ | refine blk_alloc ?_ _)); refine blk_far ?_ NB232_234.out _; (with_reducible repeat (first | refine blk_drewN ?_ _ | refine blk_drew ?_ | refine blk_alloc ?_ _)); refine blk_far ?_ NB232_234.out _; (with_reducible repeat (first | refine blk_drewN ?_ _ | refine blk_drew ?_ | refine blk_alloc ?_ _)); refine blk_far ?_ NB232_234.out _; (with_reducible repeat (first | refine blk_drewN ?_ _ | refine blk_drew ?_ | refine blk_alloc ?_ _)); refine blk_far ?_ NB232_234.out _; (with_reducible repeat (first | refine blk_drewN ?_ _ | refine blk_drew ?_ | refine blk_alloc ?_ _)); refine blk_far ?_ NB232_234.out _; (with_reducible repeat (first | refine blk_drewN ?_ _ | refine blk_drew ?_ | refine blk_alloc ?_ _)); exact BK232.out⟩
              have n1_ : Aside0 ((((((((w15.setCell ⟨gb234, 0, none⟩ (.string ((rd_T94 l0_1 x9_1).f0))).setCell ⟨gb234, 1, none⟩ (.string ((rd_T94 l0_1 x9_1).f1.f0))).setCell ⟨gb234, 2, none⟩ (.string ((rd_T94 l0_1 x9_1).f1.f1))).setCell ⟨gb234, 3, none⟩ (.int .i64 ((rd_T94 l0_1 x9_1).f1.f2))).setCell ⟨gb234, 4, none⟩ (.int .i64 ((rd_T94 l0_1 x9_1).f1.f3))).setCell ⟨gb234, 5, none⟩ (.bool ((rd_T94 l0_1 x9_1).f1.f4))).setCell ⟨gb234, 6, none⟩ (.slice A233_6 ((rd_T94 l0_1 x9_1).f1.f5).length c233_6)).heap[gb234]? = some (.cells #[.string ((rd_T94 l0_1 x9_1).f0), .string ((rd_T94 l0_1 x9_1).f1.f0), .string ((rd_T94 l0_1 x9_1).f1.f1), .int .i64 ((rd_T94 l0_1 x9_1).f1.f2), .int .i64 ((rd_T94 l0_1 x9_1).f1.f3), .bool ((rd_T94 l0_1 x9_1).f1.f4), .slice A233_6 ((rd_T94 l0_1 x9_1).f1.f5).length c233_6] 94 (0, 0))) := ⟨by (with_reducible repeat (first | refine blk_drewN ?_ _ | refine blk_drew ?_ | refine blk_alloc ?_ _)); refine blk_put (cs := #[.string ((rd_T94 l0_1 x9_1).f0), .string ((rd_T94 l0_1 x9_1).f1.f0), .string ((rd_T94 l0_1 x9_1).f1.f1), .int .i64 ((rd_T94 l0_1 x9_1).f1.f2), .int .i64 ((rd_T94 l0_1 x9_1).f1.f3), .bool ((rd_T94 l0_1 x9_1).f1.f4), .slice none 0 0]) ?_ 6 _ rfl; (with_reducible repeat (first | refine blk_drewN ?_ _ | refine blk_drew ?_ | refine blk_alloc ?_ _)); refine blk_put (cs := #[.string ((rd_T94 l0_1 x9_1).f0), .string ((rd_T94 l0_1 x9_1).f1.f0), .string ((rd_T94 l0_1 x9_1).f1.f1), .int .i64 ((rd_T94 l0_1 x9_1).f1.f2), .int .i64 ((rd_T94 l0_1 x9_1).f1.f3), .bool false, .slice none 0 0]) ?_ 5 _ rfl; (with_reducible repeat (first | refine blk_drewN ?_ _ | refine blk_drew ?_ | refine blk_alloc ?_ _)); refine blk_put (cs := #[.string ((rd_T94 l0_1 x9_1).f0), .string ((rd_T94 l0_1 x9_1).f1.f0), .string ((rd_T94 l0_1 x9_1).f1.f1), .int .i64 ((rd_T94 l0_1 x9_1).f1.f2), .int .i64 0, .bool false, .slice none 0 0]) ?_ 4 _ rfl; (with_reducible repeat (first | refine blk_drewN ?_ _ | refine blk_drew ?_ | refine blk_alloc ?_ _)); refine blk_put (cs := #[.string ((rd_T94 l0_1 x9_1).f0), .string ((rd_T94 l0_1 x9_1).f1.f0), .string ((rd_T94 l0_1 x9_1).f1.f1), .int .i64 0, .int .i64 0, .bool false, .slice none 0 0]) ?_ 3 _ rfl; (with_reducible repeat (first | refine blk_drewN ?_ _ | refine blk_drew ?_ | refine blk_alloc ?_ _)); refine blk_put (cs := #[.string ((rd_T94 l0_1 x9_1).f0), .string ((rd_T94 l0_1 x9_1).f1.f0), .string (⟨#[]⟩ : ByteArray), .int .i64 0, .int .i64 0, .bool false, .slice none 0 0]) ?_ 2 _ rfl; (with_reducible repeat (first | refine blk_drewN ?_ _ | refine blk_drew ?_ | refine blk_alloc ?_ _)); refine blk_put (cs := #[.string ((rd_T94 l0_1 x9_1).f0), .string (⟨#[]⟩ : ByteArray), .string (⟨#[]⟩ : ByteArray), .int .i64 0, .int .i64 0, .bool false, .slice none 0 0]) ?_ 1 _ rfl; (with_reducible repeat (first | refine blk_drewN ?_ _ | refine blk_drew ?_ | refine blk_alloc ?_ _)); refine blk_put (cs := #[.string (⟨#[]⟩ : ByteArray), .string (⟨#[]⟩ : ByteArray), .string (⟨#[]⟩ : ByteArray), .int .i64 0, .int .i64 0, .bool false, .slice none 0 0]) ?_ 0 _ rfl; (with_reducible repeat (first | refine blk_drewN ?_ _ | refine blk_drew ?_ | refine blk_alloc ?_ _)); exact BK234.out⟩
              have n2_ : Aside0 (Below w.heap.size w (((((((w15.setCell ⟨gb234, 0, none⟩ (.string ((rd_T94 l0_1 x9_1).f0))).setCell ⟨gb234, 1, none⟩ (.string ((rd_T94 l0_1 x9_1).f1.f0))).setCell ⟨gb234, 2, none⟩ (.string ((rd_T94 l0_1 x9_1).f1.f1))).setCell ⟨gb234, 3, none⟩ (.int .i64 ((rd_T94 l0_1 x9_1).f1.f2))).setCell ⟨gb234, 4, none⟩ (.int .i64 ((rd_T94 l0_1 x9_1).f1.f3))).setCell ⟨gb234, 5, none⟩ (.bool ((rd_T94 l0_1 x9_1).f1.f4))).setCell ⟨gb234, 6, none⟩ (.slice A233_6 ((rd_T94 l0_1 x9_1).f1.f5).length c233_6))) := ⟨by repeat (first | (with_reducible first | exact HB.out | apply below_alloc | apply pw_below_drewN | apply below_drew1 | refine below_set ?_ GE232.out | refine below_set ?_ GE234.out) | exact HB.out)⟩
              (try clear BK232)
              (try clear BK234)
              (try clear HB)
              generalize (((((((w15.setCell ⟨gb234, 0, none⟩ (.string ((rd_T94 l0_1 x9_1).f0))).setCell ⟨gb234, 1, none⟩ (.string ((rd_T94 l0_1 x9_1).f1.f0))).setCell ⟨gb234, 2, none⟩ (.string ((rd_T94 l0_1 x9_1).f1.f1))).setCell ⟨gb234, 3, none⟩ (.int .i64 ((rd_T94 l0_1 x9_1).f1.f2))).setCell ⟨gb234, 4, none⟩ (.int .i64 ((rd_T94 l0_1 x9_1).f1.f3))).setCell ⟨gb234, 5, none⟩ (.bool ((rd_T94 l0_1 x9_1).f1.f4))).setCell ⟨gb234, 6, none⟩ (.slice A233_6 ((rd_T94 l0_1 x9_1).f1.f5).length c233_6)) = w18 at n0_ n1_ n2_ ⊢
              have BK232 := n0_
              have BK234 := n1_
              have HB := n2_
              clear n0_ n1_ n2_
              have n0_ := Aside0.mk (blk_drew BK232.out)
              have n1_ := Aside0.mk (blk_drew BK234.out)
              have n2_ := Aside0.mk (below_drew1 HB.out)
              clear BK232
              clear BK234
              clear HB
              have BK232 := n0_
              have BK234 := n1_
              have HB := n2_
              clear n0_ n1_ n2_
              refine start_ (n := 11) (S := fun w' => w'.cell? ⟨gb234, 0, none⟩ = some (.string ((rd_T94 l0_1 x9_1).f0)) ∧ w'.cell? ⟨gb234, 1, none⟩ = some (.string ((rd_T94 l0_1 x9_1).f1.f0)) ∧ w'.cell? ⟨gb234, 2, none⟩ = some (.string ((rd_T94 l0_1 x9_1).f1.f1)) ∧ w'.cell? ⟨gb234, 3, none⟩ = some (.int .i64 ((rd_T94 l0_1 x9_1).f1.f2)) ∧ w'.cell? ⟨gb234, 4, none⟩ = some (.int .i64 ((rd_T94 l0_1 x9_1).f1.f3)) ∧ w'.cell? ⟨gb234, 5, none⟩ = some (.bool ((rd_T94 l0_1 x9_1).f1.f4)) ∧ w'.cell? ⟨gb234, 6, none⟩ = some (.slice A233_6 ((rd_T94 l0_1 x9_1).f1.f5).length c233_6)) (ds := []) #[false, false, false, false, false, false, false, false, false, false, false] (by kernel_rfl) rfl rfl ⟨(blk_cell BK234.out 0).trans rfl, (blk_cell BK234.out 1).trans rfl, (blk_cell BK234.out 2).trans rfl, (blk_cell BK234.out 3).trans rfl, (blk_cell BK234.out 4).trans rfl, (blk_cell BK234.out 5).trans rfl, (blk_cell BK234.out 6).trans rfl⟩ (fun hHeld => ?_); refine with_tabW bosunlaw19_Small.tab5 bosunlaw19_Small.bits5 (fun HT_ HW_ => ?_)
              generalize w18.drew = w19 at BK232 BK234 HB hHeld ⊢
              refine pure_ (i := 0) (N := some 13) (v := ?_) (a' := ?_) #[true, false, false, false, false, false, false, false, false, false, false] rfl rfl (any_of HT_.out (by kernel_rfl)) (fun _ _ _ h => h) (Or.inl ⟨by rfl, ?_⟩) ?_ ?_
              rotate_left
              · intro w'
                go_simp
                with_reducible rfl
              rotate_left
              · simp only [Act.put, List.setIfInBounds_toArray, List.set_cons_zero, List.set_cons_succ, i64_w, i32_w]
                rfl
              refine pure_ (i := 1) (N := some 14) (v := ?_) (a' := ?_) #[true, true, false, false, false, false, false, false, false, false, false] rfl rfl (any_of HT_.out (by kernel_rfl)) (fun _ _ _ h => h) (Or.inl ⟨by rfl, ?_⟩) ?_ ?_
              rotate_left
              · intro w'
                go_simp
                with_reducible rfl
              rotate_left
              · simp only [Act.put, List.setIfInBounds_toArray, List.set_cons_zero, List.set_cons_succ, i64_w, i32_w]
                rfl
              refine pure_ (i := 5) (N := some 18) (v := ?_) (a' := ?_) #[true, true, false, false, false, true, false, false, false, false, false] rfl rfl (any_of HT_.out (by kernel_rfl)) (fun _ _ _ h => h) (Or.inl ⟨by rfl, ?_⟩) ?_ ?_
              rotate_left
              · intro w'
                go_simp
                with_reducible rfl
              rotate_left
              · simp only [Act.put, List.setIfInBounds_toArray, List.set_cons_zero, List.set_cons_succ, i64_w, i32_w]
                rfl
              refine take_ (i := 2) (N := some 15) (v := ?_) (a' := ?_) #[true, true, true, false, false, true, false, false, false, false, false] rfl rfl (take_ofW HT_.out HW_.out (by kernel_rfl)) (fun _ _ _ h => h) (Or.inl ⟨by rfl, ?_⟩) hHeld ?_ ?_
              rotate_left
              · rintro w' ⟨s0, s1, s2, s3, s4, s5, s6⟩
                go_simp
                with_reducible rfl
              rotate_left
              · simp only [Act.put, List.setIfInBounds_toArray, List.set_cons_zero, List.set_cons_succ, i64_w, i32_w]
                rfl
              refine pure_ (i := 3) (N := some 16) (v := ?_) (a' := ?_) #[true, true, true, true, false, true, false, false, false, false, false] rfl rfl (any_of HT_.out (by kernel_rfl)) (fun _ _ _ h => h) (Or.inl ⟨by rfl, ?_⟩) ?_ ?_
              rotate_left
              · intro w'
                go_simp
                with_reducible rfl
              rotate_left
              · simp only [Act.put, List.setIfInBounds_toArray, List.set_cons_zero, List.set_cons_succ, i64_w, i32_w]
                rfl
              refine pure_ (i := 4) (N := some 17) (v := ?_) (a' := ?_) #[true, true, true, true, true, true, false, false, false, false, false] rfl rfl (any_of HT_.out (by kernel_rfl)) (fun _ _ _ h => h) (Or.inl ⟨by rfl, ?_⟩) ?_ ?_
              rotate_left
              · intro w'
                go_simp
                with_reducible rfl
              rotate_left
              · simp only [Act.put, List.setIfInBounds_toArray, List.set_cons_zero, List.set_cons_succ, i64_w, i32_w]
                rfl
              refine take_ (i := 6) (N := some 19) (v := ?_) (a' := ?_) #[true, true, true, true, true, true, true, false, false, false, false] rfl rfl (take_ofW HT_.out HW_.out (by kernel_rfl)) (fun _ _ _ h => h) (Or.inl ⟨by rfl, ?_⟩) hHeld ?_ ?_
              rotate_left
              · rintro w' ⟨s0, s1, s2, s3, s4, s5, s6⟩
                go_simp
                with_reducible rfl
              rotate_left
              · simp only [Act.put, List.setIfInBounds_toArray, List.set_cons_zero, List.set_cons_succ, i64_w, i32_w]
                rfl
              refine one_ (i := 7) (N := some 20) #[true, true, true, true, true, true, true, true, false, false, false] rfl rfl (one_of HT_.out (by kernel_rfl)) (by decide) (fun K hK => ?_)
              refine goes_ Tryz.func34 (by kernel_rfl) rfl #[.agg #[.string ((rd_T94 l0_1 x9_1).f1.f0), .string ((rd_T94 l0_1 x9_1).f1.f1), .int .i64 ((rd_T94 l0_1 x9_1).f1.f2), .int .i64 ((rd_T94 l0_1 x9_1).f1.f3), .bool ((rd_T94 l0_1 x9_1).f1.f4), .slice A233_6 ((rd_T94 l0_1 x9_1).f1.f5).length c233_6]] (by rfl) rfl rfl (by (try simp only [List.map_toArray, List.map_cons, List.map_nil]); first | done | rfl | (simp only [List.length_drop, List.length_take]; rfl) | (simp (disch := ((try simp only [decide_eq_true_eq, decide_eq_false_iff_not] at *); omega)) only [IntWalk.u64_in, IntWalk.u32_in, IntWalk.u16_in, IntWalk.u8_in, IntWalk.i64_in] <;> rfl)) ?_
              with_reducible refine (bosunlaw14_Weight.calls k1 ((rd_T94 l0_1 x9_1).f1.f0) ((rd_T94 l0_1 x9_1).f1.f1) ((rd_T94 l0_1 x9_1).f1.f2) ((rd_T94 l0_1 x9_1).f1.f3) ((rd_T94 l0_1 x9_1).f1.f4) _ _ ((rd_T94 l0_1 x9_1).f1.f5) t235 _ ?side1 ?side2 A7.out).mono ?_
              (case side1 => repeat (first | exact (Kd.C_below HR233_6.out HB.out) | (with_reducible refine Kd.C_alloc ?_ _) | (with_reducible refine Kd.C_drewN ?_ _) | (with_reducible refine Kd.C_drew ?_)))
              (case side2 => exact HC233_6.out)
              rintro e w20 ⟨rfl, hb⟩
              refine ⟨_, rfl, ?_⟩
              have n0_ := Aside0.mk (blk_below (g := gb232) (o := .cells #[.int .u64 a0_0, .slice (some ad233) l0_1.length c0_1] 28 (0, 0)) (by (with_reducible repeat (first | refine blk_drewN ?_ _ | refine blk_drew ?_ | refine blk_alloc ?_ _)); exact BK232.out) hb)
              have n1_ := Aside0.mk (blk_below (g := gb234) (o := .cells #[.string ((rd_T94 l0_1 x9_1).f0), .string ((rd_T94 l0_1 x9_1).f1.f0), .string ((rd_T94 l0_1 x9_1).f1.f1), .int .i64 ((rd_T94 l0_1 x9_1).f1.f2), .int .i64 ((rd_T94 l0_1 x9_1).f1.f3), .bool ((rd_T94 l0_1 x9_1).f1.f4), .slice A233_6 ((rd_T94 l0_1 x9_1).f1.f5).length c233_6] 94 (0, 0)) (by (with_reducible repeat (first | refine blk_drewN ?_ _ | refine blk_drew ?_ | refine blk_alloc ?_ _)); exact BK234.out) hb)
              have n2_ := Aside0.mk (below_step (by repeat (first | (with_reducible first | exact HB.out | apply below_alloc | apply pw_below_drewN | apply below_drew1 | refine below_set ?_ GE232.out | refine below_set ?_ GE234.out) | exact HB.out)) hb)
              clear BK232
              clear BK234
              clear HB
              have BK232 := n0_
              have BK234 := n1_
              have HB := n2_
              clear n0_ n1_ n2_
              (try clear hb)
              (try clear hb2)
              (try clear hk)
              (try clear hi)
              refine hK.out _ _ ⟨(blk_cell BK234.out 0).trans rfl, (blk_cell BK234.out 1).trans rfl, (blk_cell BK234.out 2).trans rfl, (blk_cell BK234.out 3).trans rfl, (blk_cell BK234.out 4).trans rfl, (blk_cell BK234.out 5).trans rfl, (blk_cell BK234.out 6).trans rfl⟩ (fun hHeld => ?_)
              clear hK K
              refine norm_ (a' := ?_) ?_ ?_
              rotate_left
              · show Act.put _ (some 20) _ = _
                simp only [Act.put, List.setIfInBounds_toArray, List.set_cons_zero, List.set_cons_succ, i64_w, i32_w]
                rfl
              refine pure_ (i := 8) (N := some 21) (v := ?_) (a' := ?_) #[true, true, true, true, true, true, true, true, true, false, false] rfl rfl (any_of HT_.out (by kernel_rfl)) (fun _ _ _ h => h) (Or.inl ⟨by rfl, ?_⟩) ?_ ?_
              rotate_left
              · intro w'
                go_simp
                with_reducible rfl
              rotate_left
              · simp only [Act.put, List.setIfInBounds_toArray, List.set_cons_zero, List.set_cons_succ, i64_w, i32_w]
                rfl
              refine pure_ (i := 9) (N := some 22) (v := ?_) (a' := ?_) #[true, true, true, true, true, true, true, true, true, true, false] rfl rfl (any_of HT_.out (by kernel_rfl)) (fun _ _ _ h => h) (Or.inl ⟨by rfl, ?_⟩) ?_ ?_
              rotate_left
              · intro w'
                go_simp
                with_reducible rfl
              rotate_left
              · simp only [Act.put, List.setIfInBounds_toArray, List.set_cons_zero, List.set_cons_succ, i64_w, i32_w]
                rfl
              refine pure_ (i := 10) (N := some 3) (v := ?_) (a' := ?_) #[true, true, true, true, true, true, true, true, true, true, true] rfl rfl (any_of HT_.out (by kernel_rfl)) (fun _ _ _ h => h) (Or.inl ⟨by rfl, ?_⟩) ?_ ?_
              rotate_left
              · intro w'
                go_simp
                with_reducible rfl
              rotate_left
              · simp only [Act.put, List.setIfInBounds_toArray, List.set_cons_zero, List.set_cons_succ, i64_w, i32_w]
                rfl
              refine done_ (done_of HT_.out (by kernel_rfl)) ?_
              try go_wp2
              go_roundg k1
              case measure => have := HK1.out; omega
              case rel => exact ⟨(wrap64 (x3_1 + (wrap64 ((wrap64 (10 + (((rd_T94 l0_1 x9_1).f0).size : Int))) + t235)))), (wrap64 (x9_1 + 1)), (by first | rfl | (simp; done) | (simp [*]; done)), (by first | rfl | (simp; done) | (simp [*]; done)), H', ⟨by have := HK1.out; omega⟩, ⟨by (with_reducible repeat (first | refine blk_drewN ?_ _ | refine blk_drew ?_ | refine blk_alloc ?_ _)); exact BK232.out⟩, ⟨by repeat (first | (with_reducible first | exact HB.out | apply below_alloc | apply pw_below_drewN | apply below_drew1 | refine below_set ?_ GE232.out | refine below_set ?_ GE234.out) | exact HB.out)⟩⟩
          · rw [if_neg c6] at H
            exact absurd H (by simp)
        · rw [if_neg c5] at H
          exact absurd H (by simp)
      · rw [if_neg c4] at H
        have c4b0 : decide (x9_1 < (l0_1.length : Int)) = false := decide_eq_false c4
        clear c4
        obtain rfl := Option.some.inj H
        go_wp2
        go_ret
        exact ⟨by first | rfl | (simp [errW_none, errW_some] <;> rfl) | (simp [*, errW_none, errW_some] <;> rfl), by repeat (first | (with_reducible first | exact HB.out | apply below_alloc | apply pw_below_drewN | apply below_drew1 | refine below_set ?_ GE232.out) | exact HB.out)⟩
end Go.Proofs.YtlmeelmjodjfpaaGreatDoor.PB
end
section
namespace Go.Proofs.YtlmeelmjodjfpaaGreatDoor.PB
open Go.RowKit Go.Proofs.YtlmeelmjodjfpaaGreatDoorW.PrintWords
set_option linter.unusedVariables false
set_option linter.unusedSimpArgs false
theorem w64n (i : Nat) (h : i ≤ 140737488355328) : wrap64 ((i : Int) + 1) = ((i + 1 : Nat) : Int) := by
  have : wrap64 ((i : Int) + 1) = (i : Int) + 1 := by unfold wrap64; omega
  rw [this]; omega
theorem tell_up {α : Type} {f : Nat → Option α} (hm : ∀ k, LeO (f k) (f (k + 1))) {r : α} : ∀ {k j : Nat}, f k = some r → f (k + j) = some r
  | k, 0, h => h
  | k, j + 1, h => hm (k + j) r (tell_up hm h)
section
open bosunlaw14_Weight
theorem w2_tells (x18 : List S104) (x19 x20 : Int) (x53 : List S161) (hl : x53.length ≤ 140737488355328) (h0 : ∀ x3 : Int, ∃ k r, l0 k x3 x18 x19 (wrap64 (x20 + 1)) = some r) :
    ∀ (m i : Nat) (x3 : Int), i + m = x53.length → ∃ k r, l2 k x3 x18 x19 x20 x53 (x53.length : Int) (i : Int) = some r
  | 0, i, x3, hi => by
    obtain ⟨k, r, h⟩ := h0 x3
    by_cases hx : x3 > 20000
    · exact ⟨1, 20001, by unfold l2; rw [if_neg (by omega), if_pos hx]⟩
    · exact ⟨k + 1, r, by unfold l2; rw [if_neg (by omega), if_neg hx]; exact h⟩
  | m + 1, i, x3, hi => by
    obtain ⟨k, r, h⟩ := w2_tells x18 x19 x20 x53 hl h0 m (i + 1) _ (by omega)
    exact ⟨k + 1, r, by unfold l2; rw [if_pos (by omega), if_pos (by omega), if_pos (by omega), w64n i (by omega)]; exact h⟩
theorem w1_tells (x18 : List S104) (x19 x20 : Int) (x40 : List ByteArray) (hl : x40.length ≤ 140737488355328) (c : S104) (h2 : ∀ x3 : Int, ∃ k r, l2 k x3 x18 x19 x20 c.f6 (c.f6.length : Int) 0 = some r) :
    ∀ (m i : Nat) (x3 : Int), i + m = x40.length → ∃ k r, l1 k x3 x18 x19 x20 x40 (x40.length : Int) (i : Int) c.f0 c.f1 c.f2 c.f3 c.f4 c.f5 c.f6 = some r
  | 0, i, x3, hi => by
    obtain ⟨k, r, h⟩ := h2 x3
    exact ⟨k + 1, r, by unfold l1; rw [if_neg (by omega)]; exact h⟩
  | m + 1, i, x3, hi => by
    obtain ⟨k, r, h⟩ := w1_tells x18 x19 x20 x40 hl c h2 m (i + 1) _ (by omega)
    exact ⟨k + 1, r, by unfold l1; rw [if_pos (by omega), if_pos (by omega), if_pos (by omega), w64n i (by omega)]; exact h⟩
theorem w0_tells (l : List S104) (hl : l.length ≤ 140737488355328) (hs : ∀ c ∈ l, SmC c) : ∀ (m i : Nat) (x3 : Int), i + m = l.length → ∃ k r, l0 k x3 l (l.length : Int) (i : Int) = some r
  | 0, i, x3, hi => ⟨1, x3, by unfold l0; rw [if_neg (by omega)]⟩
  | m + 1, i, x3, hi => by
    have hc : SmC (rd_T104 l (i : Int)) := hs _ (by
      have hlt : i < l.length := by omega
      rw [show rd_T104 l (i : Int) = l[i] from by simp [rd_T104, List.getD, List.getElem?_eq_getElem hlt]]
      exact List.getElem_mem hlt)
    have hn := w0_tells l hl hs m (i + 1)
    have h2 := w2_tells l (l.length : Int) (i : Int) (rd_T104 l (i : Int)).f6 hc.2.2.2.2.2.2.2 (fun y => by rw [w64n i (by omega)]; exact hn y (by omega)) (rd_T104 l (i : Int)).f6.length 0
    have h1 := w1_tells l (l.length : Int) (i : Int) (rd_T104 l (i : Int)).f2 hc.2.2.2.2.2.1 (rd_T104 l (i : Int)) (fun y => h2 y (by omega)) (rd_T104 l (i : Int)).f2.length 0
    obtain ⟨k, r, h⟩ := h1 _ (by omega)
    exact ⟨k + 1, r, by unfold l0; rw [if_pos (by omega), if_pos (by omega), if_pos (by omega)]; exact h⟩
theorem weight_tells (p : S94) (hp : SmP p) : ∃ k r, f k p.f1.f0 p.f1.f1 p.f1.f2 p.f1.f3 p.f1.f4 p.f1.f5 = some r :=
  w0_tells p.f1.f5 hp.2.2.2.2 hp.2.2.2.1 p.f1.f5.length 0 _ (by omega)
end
theorem s0_tells (l : List S94) (hl : l.length ≤ 140737488355328) (hs : ∀ p ∈ l, SmP p) : ∀ (m i : Nat) (x3 : Int), i + m = l.length → ∃ k r, bosunlaw19_Small.l0 k x3 l (l.length : Int) (i : Int) = some r
  | 0, i, x3, hi => ⟨1, true, by unfold bosunlaw19_Small.l0; rw [if_neg (by omega)]⟩
  | m + 1, i, x3, hi => by
    have hc : SmP (rd_T94 l (i : Int)) := hs _ (by
      have hlt : i < l.length := by omega
      rw [show rd_T94 l (i : Int) = l[i] from by simp [rd_T94, List.getD, List.getElem?_eq_getElem hlt]]
      exact List.getElem_mem hlt)
    obtain ⟨k1, t, ht⟩ := weight_tells _ hc
    obtain ⟨k2, r, hr⟩ := s0_tells l hl hs m (i + 1) (wrap64 (x3 + (wrap64 ((wrap64 (10 + (((rd_T94 l (i : Int)).f0).size : Int))) + t)))) (by omega)
    have ht2 := tell_up (fun k => bosunlaw14_Weight.mono (rd_T94 l (i : Int)).f1.f0 (rd_T94 l (i : Int)).f1.f1 (rd_T94 l (i : Int)).f1.f2 (rd_T94 l (i : Int)).f1.f3 (rd_T94 l (i : Int)).f1.f4 (rd_T94 l (i : Int)).f1.f5 k) (j := k2) ht
    have hr2 := tell_up (fun k => bosunlaw19_Small.mono_l k (wrap64 (x3 + (wrap64 ((wrap64 (10 + (((rd_T94 l (i : Int)).f0).size : Int))) + t)))) l (l.length : Int) ((i + 1 : Nat) : Int)) (j := k1) hr
    rw [Nat.add_comm] at hr2
    by_cases hx : wrap64 (x3 + (wrap64 ((wrap64 (10 + (((rd_T94 l (i : Int)).f0).size : Int))) + t))) > 40000
    · exact ⟨k1 + k2 + 1, false, by unfold bosunlaw19_Small.l0; rw [if_pos (by omega), if_pos (by omega), if_pos (by omega), ht2, Option.bind_some, if_pos hx]⟩
    · exact ⟨k1 + k2 + 1, r, by unfold bosunlaw19_Small.l0; rw [if_pos (by omega), if_pos (by omega), if_pos (by omega), ht2, Option.bind_some, if_neg hx, w64n i (by omega)]; exact hr2⟩
theorem smallS_tells (sq : Int) (l : List S94) (hl : l.length ≤ 140737488355328) (hs : ∀ p ∈ l, SmP p) : ∃ k r, bosunlaw19_Small.f k sq l = some r :=
  s0_tells l hl hs l.length 0 0 (by omega)
theorem cSmall (sq : Nat) (A : Option Addr) (c : Nat) (l : List S94) (hc : l.length ≤ c) (hl : l.length ≤ 140737488355328) (hs : ∀ p ∈ l, SmP p) : ∃ r : Bool, ∀ (w : World), k94.C w A l.length l →
    Calls Tryz.prog 11 #[.agg #[.int .u64 (sq : Int), .slice A l.length c]] w fun e w' => e = .returned (.bool r) ∧ Below w.heap.size w w' := by
  obtain ⟨k, r, h⟩ := smallS_tells (sq : Int) l hl hs
  exact ⟨r, fun w hC => bosunlaw19_Small.calls k (sq : Int) A c l r w hC hc h⟩
end Go.Proofs.YtlmeelmjodjfpaaGreatDoor.PB
end
section
namespace Go.Proofs.YtlmeelmjodjfpaaGreatDoor.Bits
open Go.Proofs.YtlmeelmjodjfpaaGreatDoor.Crc
def bit (l : List UInt8) (p : Nat) : Bool := (l.getD (p / 8) 0).toNat.testBit (p % 8)
def bitsOf (b : UInt8) : List Bool := [b.toNat.testBit 0, b.toNat.testBit 1, b.toNat.testBit 2, b.toNat.testBit 3, b.toNat.testBit 4, b.toNat.testBit 5, b.toNat.testBit 6, b.toNat.testBit 7]
def bits (l : List UInt8) : List Bool := l.flatMap bitsOf
theorem bits_length (l : List UInt8) : (bits l).length = 8 * l.length := by
  induction l with
  | nil => rfl
  | cons b l ih =>
    show (bitsOf b ++ bits l).length = _
    rw [List.length_append, ih, List.length_cons]
    show 8 + 8 * l.length = _
    omega
theorem bits_get (l : List UInt8) : ∀ p, p < 8 * l.length → (bits l)[p]? = some (bit l p) := by
  induction l with
  | nil => intro p h; simp at h
  | cons b l ih =>
    intro p h
    show (bitsOf b ++ bits l)[p]? = _
    by_cases h8 : p < 8
    · rw [List.getElem?_append_left (by exact h8)]
      have : p = 0 ∨ p = 1 ∨ p = 2 ∨ p = 3 ∨ p = 4 ∨ p = 5 ∨ p = 6 ∨ p = 7 := by omega
      rcases this with rfl | rfl | rfl | rfl | rfl | rfl | rfl | rfl <;> rfl
    · rw [List.getElem?_append_right (by show 8 ≤ p; omega)]
      show (bits l)[p - 8]? = _
      rw [List.length_cons] at h
      rw [ih (p - 8) (by omega)]
      unfold bit
      rw [show p / 8 = (p - 8) / 8 + 1 from by omega, show p % 8 = (p - 8) % 8 from by omega, List.getD_cons_succ]
theorem byte_ext (a b : UInt8) (h : bitsOf a = bitsOf b) : a = b := by
  unfold bitsOf at h
  simp only [List.cons.injEq, and_true] at h
  obtain ⟨h0, h1, h2, h3, h4, h5, h6, h7⟩ := h
  apply UInt8.toNat_inj.mp
  apply Nat.eq_of_testBit_eq
  intro i
  by_cases hi : i < 8
  · have : i = 0 ∨ i = 1 ∨ i = 2 ∨ i = 3 ∨ i = 4 ∨ i = 5 ∨ i = 6 ∨ i = 7 := by omega
    rcases this with rfl | rfl | rfl | rfl | rfl | rfl | rfl | rfl <;> assumption
  · have ha : a.toNat < 2 ^ i := Nat.lt_of_lt_of_le a.toNat_lt (Nat.pow_le_pow_right (by decide) (by omega))
    have hb : b.toNat < 2 ^ i := Nat.lt_of_lt_of_le b.toNat_lt (Nat.pow_le_pow_right (by decide) (by omega))
    rw [Nat.testBit_lt_two_pow ha, Nat.testBit_lt_two_pow hb]
theorem bits_inj (l : List UInt8) : ∀ m, l.length = m.length → bits l = bits m → l = m := by
  induction l with
  | nil => intro m h _; cases m with | nil => rfl | cons => simp at h
  | cons a l ih =>
    intro m h hb
    cases m with
    | nil => simp at h
    | cons b m =>
      have hb2 : bitsOf a ++ bits l = bitsOf b ++ bits m := hb
      have h1 := List.append_inj hb2 rfl
      rw [byte_ext a b h1.1, ih m (by simpa using h) h1.2]
def one (x : Bool) : BitVec 32 := if x then 1#32 else 0#32
theorem one_shift (x : Bool) : one x >>> 1 = 0#32 := by cases x <;> rfl
theorem rst_st (v : BitVec 32) (x : Bool) : rst v x = st (v ^^^ one x) := by
  rw [st_rst, one_shift, BitVec.xor_zero]
  congr 1
  cases x <;> rfl
theorem st_xor (a b : BitVec 32) : st (a ^^^ b) = st a ^^^ st b := by
  unfold st
  rw [BitVec.getLsbD_xor, BitVec.ushiftRight_xor_distrib]
  cases a.getLsbD 0 <;> cases b.getLsbD 0 <;> simp
  · ac_rfl
  · ac_rfl
  · rw [BitVec.xor_assoc, show poly ^^^ (b >>> 1 ^^^ poly) = b >>> 1 from by rw [BitVec.xor_comm (b >>> 1), ← BitVec.xor_assoc, BitVec.xor_self, BitVec.zero_xor]]
theorem one_xor (x y : Bool) : one (x ^^ y) = one x ^^^ one y := by cases x <;> cases y <;> rfl
theorem rst_xor (a b : BitVec 32) (x y : Bool) : rst (a ^^^ b) (x ^^ y) = rst a x ^^^ rst b y := by
  rw [rst_st, rst_st, rst_st, ← st_xor, one_xor]
  congr 1
  ac_rfl
theorem st_zero : st 0#32 = 0#32 := by decide
theorem st_inj0 (v : BitVec 32) (h : st v = 0#32) : v = 0#32 := by
  unfold st at h
  by_cases h0 : v.getLsbD 0 = true
  · rw [if_pos h0] at h
    have h31 := congrArg (fun x : BitVec 32 => x.getLsbD 31) h
    simp only [BitVec.getLsbD_xor, BitVec.getLsbD_ushiftRight] at h31
    have hz : v.getLsbD (1 + 31) = false := BitVec.getLsbD_of_ge v _ (by omega)
    rw [hz] at h31
    exact absurd h31 (by decide)
  · rw [if_neg h0] at h
    apply BitVec.eq_of_getLsbD_eq
    intro i hi
    cases i with
    | zero => simpa using h0
    | succ i =>
      have := congrArg (fun x : BitVec 32 => x.getLsbD i) h
      simp only [BitVec.getLsbD_ushiftRight] at this
      rw [Nat.add_comm 1 i] at this
      rw [this]
      simp
def fbits (v : BitVec 32) (xs : List Bool) : BitVec 32 := xs.foldl rst v
theorem fbits_append (v : BitVec 32) (xs ys : List Bool) : fbits v (xs ++ ys) = fbits (fbits v xs) ys := by simp [fbits]
theorem fbits_zip (xs : List Bool) : ∀ (ys : List Bool) (a b : BitVec 32), xs.length = ys.length → fbits (a ^^^ b) (List.zipWith (· ^^ ·) xs ys) = fbits a xs ^^^ fbits b ys := by
  induction xs with
  | nil => intro ys a b h; cases ys with | nil => rfl | cons => simp at h
  | cons x xs ih =>
    intro ys a b h
    cases ys with
    | nil => simp at h
    | cons y ys =>
      show fbits (rst (a ^^^ b) (x ^^ y)) (List.zipWith _ xs ys) = fbits (rst a x) xs ^^^ fbits (rst b y) ys
      rw [rst_xor]
      exact ih ys _ _ (by simpa using h)
theorem sts_rst (d : Nat) (v b : BitVec 32) : sts (d + 1) (v ^^^ b) = sts d (rst v (b.getLsbD 0) ^^^ b >>> 1) := by
  show sts d (st (v ^^^ b)) = _
  rw [st_rst]
theorem by1_bits (v : BitVec 32) (b : UInt8) : by1 v b = fbits v (bitsOf b) := by
  unfold by1
  have hb := byte_small b
  have hbit : ∀ i, i < 8 → ((BitVec.ofNat 32 b.toNat) >>> i).getLsbD 0 = b.toNat.testBit i := by
    intro i hi
    rw [BitVec.getLsbD_ushiftRight, BitVec.getLsbD_ofNat, Nat.add_zero]
    simp
    omega
  generalize BitVec.ofNat 32 b.toNat = x at *
  have s : ∀ n : Nat, (x >>> n) >>> (1 : Nat) = x >>> (n + 1 : Nat) := fun n => by rw [← BitVec.shiftRight_add]
  have e0 : x = x >>> 0 := by simp
  rw [show sts 8 (v ^^^ x) = sts 8 (v ^^^ x >>> 0) from by rw [← e0]]
  rw [sts_rst, s, hbit 0 (by omega), sts_rst, s, hbit 1 (by omega), sts_rst, s, hbit 2 (by omega), sts_rst, s, hbit 3 (by omega), sts_rst, s, hbit 4 (by omega), sts_rst, s, hbit 5 (by omega), sts_rst, s, hbit 6 (by omega), sts_rst, s, hbit 7 (by omega)]
  rw [hb, BitVec.xor_zero]
  rfl
theorem fold_bits (l : List UInt8) : ∀ v, fold v l = fbits v (bits l) := by
  induction l with
  | nil => intro v; rfl
  | cons b l ih =>
    intro v
    show fold (by1 v b) l = fbits v (bitsOf b ++ bits l)
    rw [fbits_append, ← by1_bits, ih]
theorem fbits_zeros (n : Nat) : ∀ v, fbits v (List.replicate n false) = sts n v := by
  induction n with
  | zero => intro v; rfl
  | succ n ih =>
    intro v
    show fbits (rst v false) (List.replicate n false) = sts n (st v)
    rw [ih, rst_st]
    show sts n (st (v ^^^ 0#32)) = _
    rw [BitVec.xor_zero]
theorem sts_inj0 (n : Nat) : ∀ v, sts n v = 0#32 → v = 0#32 := by
  induction n with
  | zero => intro v h; exact h
  | succ n ih => intro v h; exact st_inj0 v (ih _ h)
theorem sts_zero (n : Nat) : sts n 0#32 = 0#32 := by
  induction n with
  | zero => rfl
  | succ n ih => show sts n (st 0#32) = _; rw [st_zero, ih]
/-- What bits in a row are, as a number. -/
def val : List Bool → BitVec 32
  | [] => 0#32
  | x :: xs => one x ^^^ (val xs <<< 1)
theorem val_bound (xs : List Bool) : ∀ i, xs.length ≤ i → (val xs).getLsbD i = false := by
  induction xs with
  | nil => intro i _; simp [val]
  | cons x xs ih =>
    intro i hi
    rw [List.length_cons] at hi
    unfold val
    rw [BitVec.getLsbD_xor, BitVec.getLsbD_shiftLeft]
    have h1 : (one x).getLsbD i = false := by
      obtain ⟨j, rfl⟩ : ∃ j, i = j + 1 := ⟨i - 1, by omega⟩
      cases x
      · simp [one]
      · simp [one]
    rw [h1, ih (i - 1) (by omega)]
    simp
theorem val_lsb (x : Bool) (xs : List Bool) : (val (x :: xs)).getLsbD 0 = x := by
  unfold val
  rw [BitVec.getLsbD_xor, BitVec.getLsbD_shiftLeft]
  cases x <;> simp [one]
theorem val_shift (x : Bool) (xs : List Bool) (h : xs.length ≤ 31) : val (x :: xs) >>> 1 = val xs := by
  show (one x ^^^ (val xs <<< 1)) >>> 1 = _
  rw [BitVec.ushiftRight_xor_distrib, one_shift, BitVec.zero_xor]
  apply BitVec.eq_of_getLsbD_eq
  intro i hi
  rw [BitVec.getLsbD_ushiftRight, BitVec.getLsbD_shiftLeft]
  by_cases h31 : i = 31
  · subst h31
    rw [val_bound xs 31 h]
    simp
  · rw [show 1 + i - 1 = i from by omega]
    simp
    omega
theorem fbits_val (xs : List Bool) : ∀ v, xs.length ≤ 32 → fbits v xs = sts xs.length (v ^^^ val xs) := by
  induction xs with
  | nil => intro v _; simp [fbits, sts, val]
  | cons x xs ih =>
    intro v h
    rw [List.length_cons] at h ⊢
    show fbits (rst v x) xs = _
    rw [sts_rst, val_lsb, val_shift x xs (by omega)]
    exact ih _ (by omega)
theorem val_zero (xs : List Bool) (hl : xs.length ≤ 32) (h : val xs = 0#32) : ∀ x ∈ xs, x = false := by
  induction xs with
  | nil => intro x hx; cases hx
  | cons y ys ih =>
    rw [List.length_cons] at hl
    have h0 := val_lsb y ys
    rw [h] at h0
    have h1 := val_shift y ys (by omega)
    rw [h] at h1
    have hy : y = false := by rw [← h0]; rfl
    have hv : val ys = 0#32 := by rw [← h1]; rfl
    intro x hx
    rcases List.mem_cons.mp hx with rfl | hx
    · exact hy
    · exact ih (by omega) hv x hx
theorem all_false (xs : List Bool) (h : ∀ x ∈ xs, x = false) : xs = List.replicate xs.length false := List.eq_replicate_of_mem h
/-- A row of bits in which nothing stands outside of 32 in a row: the register comes to nothing only of nothing. -/
theorem burst_bits (E : List Bool) (a : Nat) (h : ∀ p, p < a ∨ a + 32 ≤ p → E.getD p false = false) (h0 : fbits 0#32 E = 0#32) : ∀ x ∈ E, x = false := by
  have hsplit : E = E.take a ++ ((E.drop a).take 32 ++ (E.drop a).drop 32) := by rw [List.take_append_drop, List.take_append_drop]
  have hA : ∀ x ∈ E.take a, x = false := by
    intro x hx
    obtain ⟨i, hi, rfl⟩ := List.getElem_of_mem hx
    rw [List.length_take] at hi
    have := h i (Or.inl (by omega))
    rw [List.getElem_take]
    rw [List.getD_eq_getElem?_getD, List.getElem?_eq_getElem (by omega)] at this
    exact this
  have hC : ∀ x ∈ (E.drop a).drop 32, x = false := by
    intro x hx
    rw [List.drop_drop] at hx
    obtain ⟨i, hi, rfl⟩ := List.getElem_of_mem hx
    rw [List.length_drop] at hi
    have := h (a + 32 + i) (Or.inr (by omega))
    rw [List.getElem_drop]
    rw [List.getD_eq_getElem?_getD, List.getElem?_eq_getElem (by omega)] at this
    exact this
  have hW : ((E.drop a).take 32).length ≤ 32 := List.length_take_le _ _
  rw [hsplit, fbits_append, fbits_append, all_false _ hA, fbits_zeros, sts_zero, all_false _ hC, fbits_zeros, fbits_val _ _ hW, BitVec.zero_xor] at h0
  have hv := sts_inj0 _ _ (sts_inj0 _ _ h0)
  have hB := val_zero _ hW hv
  intro x hx
  rw [hsplit] at hx
  rcases List.mem_append.mp hx with hx | hx
  · exact hA x hx
  rcases List.mem_append.mp hx with hx | hx
  · exact hB x hx
  · exact hC x hx
theorem zip_false (xs : List Bool) : ∀ ys, xs.length = ys.length → (∀ x ∈ List.zipWith (· ^^ ·) xs ys, x = false) → xs = ys := by
  induction xs with
  | nil => intro ys h _; cases ys with | nil => rfl | cons => simp at h
  | cons x xs ih =>
    intro ys h hz
    cases ys with
    | nil => simp at h
    | cons y ys =>
      have h1 : (x ^^ y) = false := hz _ (by simp)
      have h2 := ih ys (by simpa using h) (fun z hz' => hz z (by simp [hz']))
      rw [h2]
      congr 1
      cases x <;> cases y <;> simp_all
/-- The plain law. -/
theorem burst_sum (l m : List UInt8) (hl : l.length = m.length) (a : Nat) (h : ∀ p, p < a ∨ a + 32 ≤ p → bit m p = bit l p) : sum m = sum l ↔ m = l := by
  constructor
  · intro hs
    have hf : fold (~~~ 0#32) m = fold (~~~ 0#32) l := by
      have := congrArg (fun x : BitVec 32 => ~~~ x) hs
      simpa [sum, more] using this
    rw [fold_bits, fold_bits] at hf
    have hlen : (bits m).length = (bits l).length := by rw [bits_length, bits_length, hl]
    have hz := fbits_zip (bits m) (bits l) (~~~ 0#32) (~~~ 0#32) hlen
    rw [hf, BitVec.xor_self, BitVec.xor_self] at hz
    have hE := burst_bits _ a (fun p hp => ?_) hz
    · exact bits_inj m l hl.symm (zip_false _ _ hlen hE)
    · rw [List.getD_eq_getElem?_getD, List.getElem?_zipWith]
      by_cases hp8 : p < 8 * l.length
      · rw [bits_get m p (by omega), bits_get l p hp8, h p hp]
        simp
      · rw [List.getElem?_eq_none (by rw [bits_length]; omega)]
        rfl
  · intro h; rw [h]
def flip (l : List UInt8) (p : Nat) : List UInt8 := l.set (p / 8) (UInt8.ofNat ((l.getD (p / 8) 0).toNat ^^^ 2 ^ (p % 8)))
theorem flip_length (l : List UInt8) (p : Nat) : (flip l p).length = l.length := List.length_set
theorem bit_flip (l : List UInt8) (p q : Nat) (hpq : p ≠ q) : bit (flip l p) q = bit l q := by
  unfold bit flip
  by_cases h : p / 8 = q / 8
  · rw [← h]
    by_cases hl : p / 8 < l.length
    · rw [List.getD_eq_getElem?_getD, List.getElem?_set_self hl, List.getD_eq_getElem?_getD, List.getElem?_eq_getElem hl]
      simp only [Option.getD_some]
      have h1 := (l[p / 8]).toNat_lt
      have h2 : 2 ^ (p % 8) < 2 ^ 8 := Nat.pow_lt_pow_right (by decide) (by omega)
      have h3 : (l[p / 8]).toNat ^^^ 2 ^ (p % 8) < 2 ^ 8 := Nat.xor_lt_two_pow h1 h2
      rw [UInt8.toNat_ofNat', Nat.mod_eq_of_lt h3, Nat.testBit_xor, Nat.testBit_two_pow_of_ne (by omega), Bool.xor_false]
    · rw [List.set_eq_of_length_le (by omega)]
  · rw [List.getD_eq_getElem?_getD, List.getElem?_set_ne h, ← List.getD_eq_getElem?_getD]
theorem xor_u8 (x y : Nat) (hx : x < 256) (hy : y < 256) : Go.bits .xor .u8 (x : Int) (y : Int) = ((x ^^^ y : Nat) : Int) := by
  have h : Go.bits .xor .u8 (x : Int) (y : Int) = IntKind.u8.wrap ((BitVec.ofInt 8 (x : Int) ^^^ BitVec.ofInt 8 (y : Int)).toNat : Int) := rfl
  have h3 : x ^^^ y < 2 ^ 8 := Nat.xor_lt_two_pow hx hy
  have h4 : (2 : Nat) ^ 8 = 256 := by decide
  rw [h, BitVec.ofInt_natCast, BitVec.ofInt_natCast, BitVec.toNat_xor, BitVec.toNat_ofNat, BitVec.toNat_ofNat, Nat.mod_eq_of_lt (by omega), Nat.mod_eq_of_lt (by omega), IntWalk.u8_in _ (by omega)]
end Go.Proofs.YtlmeelmjodjfpaaGreatDoor.Bits
end
section
namespace Go.Proofs.YtlmeelmjodjfpaaGreatDoor.Fburst
open Go.Proofs.YtlmeelmjodjfpaaGreatDoor.Fr Go.Proofs.YtlmeelmjodjfpaaGreatDoor.Op Go.Proofs.YtlmeelmjodjfpaaGreatDoor.Closes Go.Proofs.YtlmeelmjodjfpaaGreatDoor.Bits
theorem openP_ok (m : List UInt8) (h : (openP m).2.2 = 0) : m.take 4 = magic.take m.length ∧ 9 ≤ m.length ∧ m.length = num ((m.drop 5).take 4) + 13 ∧ m.drop (num ((m.drop 5).take 4) + 9) = be4 (Crc.sum ((m.drop 4).take (num ((m.drop 5).take 4) + 5))).toNat := by
  unfold openP at h
  by_cases h1 : m.take 4 = magic.take m.length
  · rw [if_pos h1] at h
    by_cases h2 : m.length < 9
    · rw [if_pos h2] at h; exact absurd h (by simp)
    rw [if_neg h2] at h
    by_cases h3 : 4194304 < num ((m.drop 5).take 4)
    · rw [if_pos h3] at h; exact absurd h (by simp)
    rw [if_neg h3] at h
    by_cases h4 : m.length < num ((m.drop 5).take 4) + 13
    · rw [if_pos h4] at h; exact absurd h (by simp)
    rw [if_neg h4] at h
    by_cases h5 : num ((m.drop 5).take 4) + 13 < m.length
    · rw [if_pos h5] at h; exact absurd h (by simp)
    rw [if_neg h5] at h
    by_cases h6 : m.drop (num ((m.drop 5).take 4) + 9) = be4 (Crc.sum ((m.drop 4).take (num ((m.drop 5).take 4) + 5))).toNat
    · exact ⟨h1, by omega, by omega, h6⟩
    rw [if_neg h6] at h
    exact absurd h (by simp)
  · rw [if_neg h1] at h; exact absurd h (by simp)
theorem byte_bits (l m : List UInt8) (i : Nat) (hl : i < l.length) (hm : i < m.length) (h : ∀ p, 8 * i ≤ p → p < 8 * i + 8 → bit m p = bit l p) : m[i] = l[i] := by
  apply byte_ext
  have hb : ∀ j, j < 8 → (m[i]).toNat.testBit j = (l[i]).toNat.testBit j := by
    intro j hj
    have := h (8 * i + j) (by omega) (by omega)
    unfold bit at this
    rw [show (8 * i + j) / 8 = i from by omega, show (8 * i + j) % 8 = j from by omega, List.getD_eq_getElem?_getD, List.getD_eq_getElem?_getD, List.getElem?_eq_getElem hl, List.getElem?_eq_getElem hm] at this
    exact this
  unfold bitsOf
  rw [hb 0 (by omega), hb 1 (by omega), hb 2 (by omega), hb 3 (by omega), hb 4 (by omega), hb 5 (by omega), hb 6 (by omega), hb 7 (by omega)]
theorem take_same (l m : List UInt8) (n : Nat) (hlen : m.length = l.length) (h : ∀ p, p < 8 * n → bit m p = bit l p) : m.take n = l.take n := by
  apply List.ext_getElem
  · rw [List.length_take, List.length_take, hlen]
  · intro i h1 h2
    rw [List.length_take] at h1 h2
    rw [List.getElem_take, List.getElem_take]
    exact byte_bits l m i (by omega) (by omega) (fun p _ hp => h p (by omega))
theorem drop_same (l m : List UInt8) (n : Nat) (hlen : m.length = l.length) (h : ∀ p, 8 * n ≤ p → bit m p = bit l p) : m.drop n = l.drop n := by
  apply List.ext_getElem
  · rw [List.length_drop, List.length_drop, hlen]
  · intro i h1 h2
    rw [List.length_drop] at h1 h2
    rw [List.getElem_drop, List.getElem_drop]
    exact byte_bits l m (n + i) (by omega) (by omega) (fun p hp _ => h p (by omega))
theorem be4_inj (x y : Nat) (hx : x < 4294967296) (hy : y < 4294967296) (h : be4 x = be4 y) : x = y := by
  rw [← num_be4 x hx, ← num_be4 y hy, h]
theorem bit_drop4 (m : List UInt8) (p : Nat) : bit (m.drop 4) p = bit m (p + 32) := by
  unfold bit
  rw [List.getD_eq_getElem?_getD, List.getD_eq_getElem?_getD, List.getElem?_drop, show 4 + p / 8 = (p + 32) / 8 from by omega, show (p + 32) % 8 = p % 8 from by omega]
theorem bit_take (m : List UInt8) (n p : Nat) (h : p < 8 * n) : bit (m.take n) p = bit m p := by
  unfold bit
  rw [List.getD_eq_getElem?_getD, List.getD_eq_getElem?_getD, List.getElem?_take_of_lt (by omega)]
theorem bit_beyond (m : List UInt8) (p : Nat) (h : 8 * m.length ≤ p) : bit m p = false := by
  unfold bit
  rw [List.getD_eq_getElem?_getD, List.getElem?_eq_none (by omega)]
  simp
/-- What was turned. -/
def Part (len fr til : Nat) : Prop := (fr = 9 ∧ til = 9 + len) ∨ (fr = 9 + len ∧ til = 13 + len) ∨ (fr = 0 ∧ til = 4)
theorem frame_burst (ver : Nat) (hv : ver < 256) (p : List UInt8) (hp : p.length ≤ 4194304) (m : List UInt8) (hlen : m.length = (frameOf ver p).length) (fr til lo : Nat) (hpart : Part p.length fr til) (hlo : 8 * fr ≤ lo)
    (h : ∀ q, q < lo ∨ lo + 32 ≤ q ∨ 8 * til ≤ q → bit m q = bit (frameOf ver p) q) : (openP m).2.2 = 0 ↔ m = frameOf ver p := by
  constructor
  · intro h0
    obtain ⟨hm, h9, hn, hs⟩ := openP_ok m h0
    obtain ⟨hm', _, hn', hs'⟩ := openP_ok (frameOf ver p) (by rw [open_close ver hv p hp])
    have hfl := frameOf_length ver p
    generalize frameOf ver p = f at *
    have hT : m.take fr = f.take fr := take_same f m fr hlen (fun q hq => h q (Or.inl (by omega)))
    have hD : m.drop til = f.drop til := drop_same f m til hlen (fun q hq => h q (Or.inr (Or.inr hq)))
    have hn2 : num ((m.drop 5).take 4) = p.length := by omega
    have hn3 : num ((f.drop 5).take 4) = p.length := by omega
    rw [hn2] at hs
    rw [hn3] at hs'
    rcases hpart with ⟨rfl, rfl⟩ | ⟨rfl, rfl⟩ | ⟨rfl, rfl⟩
    · have hsum : Crc.sum ((m.drop 4).take (p.length + 5)) = Crc.sum ((f.drop 4).take (p.length + 5)) := by
        rw [show 9 + p.length = p.length + 9 from by omega] at hD
        rw [hs, hs'] at hD
        have := be4_inj _ _ (BitVec.isLt _) (BitVec.isLt _) hD
        exact BitVec.eq_of_toNat_eq this
      have hb := (burst_sum ((f.drop 4).take (p.length + 5)) ((m.drop 4).take (p.length + 5)) (by rw [List.length_take, List.length_take, List.length_drop, List.length_drop, hlen]) (lo - 32) (fun q hq => by
        by_cases hq2 : q < 8 * (p.length + 5)
        · rw [bit_take _ _ _ hq2, bit_take _ _ _ hq2, bit_drop4, bit_drop4]
          exact h (q + 32) (by omega)
        · rw [bit_beyond _ _ (by rw [List.length_take]; omega), bit_beyond _ _ (by rw [List.length_take]; omega)])).mp hsum
      have e4 : m.take 4 = f.take 4 := by
        have := congrArg (List.take 4) hT
        rw [List.take_take, List.take_take] at this
        exact this
      have ed : m.drop (p.length + 9) = f.drop (p.length + 9) := by rw [Nat.add_comm p.length 9]; exact hD
      rw [← List.take_append_drop 4 m, ← List.take_append_drop 4 f, e4, ← List.take_append_drop (p.length + 5) (m.drop 4), ← List.take_append_drop (p.length + 5) (f.drop 4), hb, List.drop_drop, List.drop_drop, show 4 + (p.length + 5) = p.length + 9 from by omega, ed]
    · have eb : (m.drop 4).take (p.length + 5) = (f.drop 4).take (p.length + 5) := by
        have := congrArg (List.drop 4) hT
        rw [List.drop_take, List.drop_take, show 9 + p.length - 4 = p.length + 5 from by omega] at this
        exact this
      rw [eb, ← hs'] at hs
      rw [← List.take_append_drop (9 + p.length) m, hT, show 9 + p.length = p.length + 9 from by omega, hs, List.take_append_drop]
    · have e4 : m.take 4 = f.take 4 := by rw [hm, hm', hlen]
      rw [← List.take_append_drop 4 m, e4, hD, List.take_append_drop]
  · intro h2
    rw [h2, open_close ver hv p hp]
end Go.Proofs.YtlmeelmjodjfpaaGreatDoor.Fburst
end
section
namespace Go.Proofs.YtlmeelmjodjfpaaGreatDoor.Brow
open Go.RowKit Go.Proofs.YtlmeelmjodjfpaaGreatDoor.PB Go.Proofs.YtlmeelmjodjfpaaGreatDoorW.PrintWords Go.Proofs.YtlmeelmjodjfpaaGreatDoorW.PrintLast Go.Proofs.YtlmeelmjodjfpaaGreatDoorW.PrintMore
def cells (m : List UInt8) : List Value := m.map fun b => Value.int .u8 b.toNat
/-- Block g holds the bytes m, behind them zeros, and the run-time's mark. -/
def BRow (w : World) (g : Nat) (m : List UInt8) : Prop := ∃ (tail : List Value) (c : Nat), w.heap[g]? = some (.cells (cells m ++ tail).toArray 5 (c, c + 1)) ∧ m.length ≤ c
theorem BRow.cell {w : World} {g : Nat} {m : List UInt8} (h : BRow w g m) (j : Nat) (hj : j < m.length) : w.cell? ⟨g, j, none⟩ = some (.int .u8 ((m.getD j 0).toNat : Nat)) := by
  obtain ⟨tail, c, hg, hc⟩ := h
  have hj2 : j < (cells m).length := by simpa [cells] using hj
  simp only [World.cell?, hg]
  show (cells m ++ tail).toArray[j]? = _
  rw [List.getElem?_toArray, List.getElem?_append_left hj2]
  simp [cells, List.getD_eq_getElem?_getD, List.getElem?_eq_getElem hj]
theorem BRow.free {w : World} {g : Nat} {m : List UInt8} (h : BRow w g m) (j : Nat) (hj : j < m.length) : w.frozen? ⟨g, j, none⟩ = false := by
  obtain ⟨tail, c, hg, hc⟩ := h
  simp only [World.frozen?, hg]
  simp
  omega
theorem BRow.drew {w : World} {g : Nat} {m : List UInt8} (h : BRow w g m) : BRow w.drew g m := h
theorem BRow.set {w : World} {g : Nat} {m : List UInt8} (h : BRow w g m) (j : Nat) (hj : j < m.length) (b : UInt8) (x : Int) (hx : x = ((b.toNat : Nat) : Int)) : BRow (w.setCell ⟨g, j, none⟩ (.int .u8 x)) g (m.set j b) := by
  obtain ⟨tail, c, hg, hc⟩ := h
  refine ⟨tail, c, ?_, by rw [List.length_set]; exact hc⟩
  have hj2 : j < (cells m).length := by simpa [cells] using hj
  subst hx
  simp only [World.setCell, Array.getElem?_modify, hg]
  simp only [if_pos trivial, Option.map_some]
  rw [List.setIfInBounds_toArray, List.set_append_left _ _ hj2]
  simp [cells, List.map_set]
theorem BRow.new (w : World) (s : ByteArray) : BRow (Lib.bytesWorld w 5 s) w.heap.size s.data.toList := by
  refine ⟨List.replicate (grownCap w s.size 0 5 - s.size) (.int .u8 0), (Lib.bytesCells w 5 s).size, ?_, ?_⟩
  · rw [Lib.bytesWorld_at_new]
    congr 2
    apply Array.ext'
    simp [Lib.bytesCells, cells]
  · simp [Lib.bytesCells]
theorem below_new (w : World) (s : ByteArray) : Below w.heap.size w (Lib.bytesWorld w 5 s) := by
  refine ⟨?_, ?_, ?_, ?_, fun k hk => Lib.bytesWorld_at_old w 5 s k hk⟩
  · simp [Lib.bytesWorld, World.freeze, World.alloc, World.drew, -World.alloc_eq, -World.drew_eq]
  · simp [Lib.bytesWorld, World.freeze, World.alloc, World.drew, -World.alloc_eq, -World.drew_eq]
  · simp [Lib.bytesWorld, World.freeze, World.alloc, World.drew, -World.alloc_eq, -World.drew_eq]
  · rw [Lib.bytesWorld_size]
    omega
theorem BRow.reads {w : World} {g : Nat} {m : List UInt8} (h : BRow w g m) (hm : m.length ≤ 9223372036854775807) : ReadsInt w .u8 (some ⟨g, 0, none⟩) m.length (m.map fun b => (b.toNat : Int)) := by
  refine ⟨by simp, hm, fun _ => ⟨_, rfl, fun j hj => ?_⟩⟩
  have hc := h.cell j hj
  have he : (Addr.add ⟨g, 0, none⟩ j) = ⟨g, j, none⟩ := by simp [Addr.add]; omega
  rw [he, hc]
  simp [List.getD_eq_getElem?_getD, List.getElem?_eq_getElem hj]
theorem BRow.text {w : World} {g : Nat} {m : List UInt8} (h : BRow w g m) (hm : m.length ≤ 9223372036854775807) (c : Nat) :
    (convert 44 9 (.slice (some ⟨g, 0, none⟩) m.length c)).run Tryz.prog w = .ok (.string (Fr.tx m)) w := by
  rw [string_of_reads (P := Tryz.prog) (e := 5) Tryz.underlying44 Tryz.underlying5 Tryz.underlying9 (h.reads hm)]
  congr 2
  apply Crc.eq_list
  rw [strOfNums_data, List.map_map, Fr.tx_list]
  refine Eq.trans (List.map_congr_left (g := id) ?_) (List.map_id m)
  intro b _
  show UInt8.ofNat ((b.toNat : Int).toNat) = b
  rw [Int.toNat_natCast, UInt8.ofNat_toNat]
end Go.Proofs.YtlmeelmjodjfpaaGreatDoor.Brow
end
