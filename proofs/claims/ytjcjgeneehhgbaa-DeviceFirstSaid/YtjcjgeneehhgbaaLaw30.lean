/-
  The helpers of chapter 30's laws: plain, name, loss, operation, do.
-/
import Derived.Test.YtjcjgeneehhgbaaTape
import Derived.Test.YtjcjgeneehhgbaaDevOk
namespace Go.Proofs.Ytjcjgeneehhgbaa.Dev
open Go.RowKit Go.Proofs
set_option linter.unusedVariables false
set_option linter.unusedSectionVars false
set_option linter.unusedSimpArgs false
variable [Bs]

def plainS (x : Int) : ByteArray := strOfNums [97 + x]
theorem plainS_ok {x : Int} (h0 : 0 ≤ x) (h1 : x < 4) : valid (plainS x) = true ∧ (plainS x).size = 1 := by
  have : x = 0 ∨ x = 1 ∨ x = 2 ∨ x = 3 := by omega
  rcases this with rfl | rfl | rfl | rfl <;> exact ⟨by kernel_rfl, by kernel_rfl⟩
set_option maxHeartbeats 1000000 in
set_option maxRecDepth 20000 in
theorem plain_calls {w00 w : World} {t i : Nat} {xs : List Int} {S : Nat → Prop} (h : TapeO w00 t xs i w S) (hl : Below Bs.n w00 w) (hq : Bs.n ≤ w00.heap.size) (hi : i ≤ 900000000) :
    Calls Try.prog 24 #[.pointer (some ⟨t, 0, none⟩)] w fun e w' => e = .returned (.string (plainS (tnext xs i 4))) ∧ TapeO w00 t xs (i + 1) w' S ∧ Fr S w w' ∧ U8 w w' ∧ Below Bs.n w00 w' := by
  have H := Lib.hid h
  have Hl := Lib.hid hl
  clear h hl
  have Hr := Lib.hid (tnext_range xs i (show (1 : Int) ≤ 4 by omega))
  generalize hx : tnext xs i 4 = x at *
  have HX := Lib.hid hx
  clear hx
  go_enter Try.func24, Try.ntmps24
  go_wp2_with fail
  refine (next_go H.out Hl.out hq (by omega) 4 (by omega)).mono ?_
  rw [HX.out]
  rintro e w1 ⟨rfl, ht, hF, hu, hB⟩
  have HT := Lib.hid ht
  have HF := Lib.hid hF
  have HU := Lib.hid hu
  clear ht hF hu hB
  obtain ⟨hr0, hr1⟩ := Hr.out
  have hb1 : Below w1.heap.size w1 (w1.alloc (.cells #[Value.int .u8 (97 + x)] 5)) := (Below.refl _ _).alloc (Nat.le_refl _) _
  have hx : Rd (w1.alloc (.cells #[Value.int .u8 (97 + x)] 5)) (.slice (some ⟨w1.heap.size, 0, none⟩) 1 1) [97 + x] := rd_lit (heap_alloc_new w1 _) rfl rfl (by omega)
  have s1 := run_string hx
  have HB1 := Lib.hid hb1
  clear hb1 hx
  go_wp2
  go_ret
  have hF2 := HF.out.trans (Fr.below HB1.out)
  exact ⟨rfl, HT.out.keep (HB1.out.block t HT.out.lt), hF2, HU.out.trans (U8.below HB1.out), H.out.old Hl.out hq hF2⟩

def nm (j : Nat) : ByteArray := [(⟨#[97]⟩ : ByteArray), ⟨#[98]⟩, ⟨#[99]⟩, ⟨#[97, 46, 49]⟩, ⟨#[]⟩, ⟨#[65]⟩, ⟨#[97, 47, 98]⟩].getD j ⟨#[]⟩
def nmJ (xs : List Int) (i : Nat) : Nat := (tnext xs i 4 + 3 * ((tnext xs (i + 1) 12).tdiv 11)).toNat
theorem nm_size (j : Nat) : (nm j).size ≤ 3 := by
  match j with
  | 0 => decide
  | 1 => decide
  | 2 => decide
  | 3 => decide
  | 4 => decide
  | 5 => decide
  | 6 => decide
  | j + 7 => simp [nm]; decide
set_option maxHeartbeats 2000000 in
set_option maxRecDepth 20000 in
theorem name_calls {w00 w : World} {t i : Nat} {xs : List Int} {S : Nat → Prop} (h : TapeO w00 t xs i w S) (hl : Below Bs.n w00 w) (hq : Bs.n ≤ w00.heap.size) (hi : i ≤ 900000000) :
    Calls Try.prog 42 #[.pointer (some ⟨t, 0, none⟩)] w fun e w' => e = .returned (.string (nm (nmJ xs i))) ∧ TapeO w00 t xs (i + 2) w' S ∧ Fr S w w' ∧ U8 w w' ∧ Below Bs.n w00 w' := by
  have H := Lib.hid h
  have Hl := Lib.hid hl
  clear h hl
  have Hr := Lib.hid (tnext_range xs i (show (1 : Int) ≤ 4 by omega))
  have Hr2 := Lib.hid (tnext_range xs (i + 1) (show (1 : Int) ≤ 12 by omega))
  have HJ : Hid (nmJ xs i = (tnext xs i 4 + 3 * ((tnext xs (i + 1) 12).tdiv 11)).toNat) := Lib.hid rfl
  generalize hs : nm (nmJ xs i) = s at *
  have Hs := Lib.hid hs
  clear hs
  generalize hx : tnext xs i 4 = x at *
  generalize hu : tnext xs (i + 1) 12 = u at *
  have HX := Lib.hid hx
  have HU := Lib.hid hu
  have hq2 : 0 ≤ u.tdiv 11 ∧ u.tdiv 11 ≤ 1 := by
    obtain ⟨h0, h1⟩ := Hr2.out
    rw [Int.tdiv_eq_ediv_of_nonneg h0]
    omega
  have Hq2 := Lib.hid hq2
  generalize hdv : u.tdiv 11 = q at *
  have Hdv := Lib.hid hdv
  clear hx hu hq2 hdv
  have hb0 : Below w.heap.size w (w.alloc (.cells #[Value.string ⟨#[97]⟩, .string ⟨#[98]⟩, .string ⟨#[99]⟩, .string ⟨#[97, 46, 49]⟩, .string ⟨#[]⟩, .string ⟨#[65]⟩, .string ⟨#[97, 47, 98]⟩] 9)) := (Below.refl _ _).alloc (Nat.le_refl _) _
  have hblk := heap_alloc_new w (.cells #[Value.string ⟨#[97]⟩, .string ⟨#[98]⟩, .string ⟨#[99]⟩, .string ⟨#[97, 46, 49]⟩, .string ⟨#[]⟩, .string ⟨#[65]⟩, .string ⟨#[97, 47, 98]⟩] 9)
  have Hb0 := Lib.hid hb0
  have Hblk := Lib.hid hblk
  have hiff := H.out.iff
  have hlt := H.out.lt
  clear hb0 hblk
  go_enter Try.func42, Try.ntmps42
  go_wp2_with fail
  refine (next_go (H.out.keep (Hb0.out.block t hlt)) (H.out.old Hl.out hq (Fr.below Hb0.out)) hq (by omega) 4 (by omega)).mono ?_
  rw [HX.out]
  rintro e w1 ⟨rfl, ht, hF, hu, hB⟩
  have HT1 := Lib.hid ht
  have HF1 := Lib.hid ((Fr.below Hb0.out).trans hF)
  have HB1 := Lib.hid hB
  have Hblk1 := Lib.hid ((hF.block w.heap.size (by simp) (fun e => by have := (hiff _).1 e; omega)).trans Hblk.out)
  clear ht hF hu hB
  go_wp2_with fail
  refine (next_go HT1.out HB1.out hq (by omega) 12 (by omega)).mono ?_
  rw [HU.out]
  rintro e w2 ⟨rfl, ht, hF, hu, hB⟩
  have HT2 := Lib.hid ht
  have HF2 := Lib.hid (HF1.out.trans hF)
  have HB2 := Lib.hid hB
  have hblk2 := (hF.block w.heap.size (Array.getElem?_eq_some_iff.1 Hblk1.out).1 (fun e => by have := (hiff _).1 e; omega)).trans Hblk1.out
  obtain ⟨hx0, hx1⟩ := Hr.out
  obtain ⟨hq0, hq1⟩ := Hq2.out
  have hcell : w2.cell? ⟨w.heap.size, (x + 3 * q).toNat, none⟩ = some (.string s) := by
    rw [← Hs.out, HJ.out]
    have : x + 3 * q = 0 ∨ x + 3 * q = 1 ∨ x + 3 * q = 2 ∨ x + 3 * q = 3 ∨ x + 3 * q = 4 ∨ x + 3 * q = 5 ∨ x + 3 * q = 6 := by omega
    rw [blk_cell hblk2]
    rcases this with h | h | h | h | h | h | h <;> rw [h] <;> rfl
  clear ht hF hu hB hblk2
  have hdv := Hdv.out
  go_wp2
  go_ret
  exact ⟨rfl, HT2.out, HF2.out, HF2.out.u8 fun j hj => (stable_tape w00 t xs _).no8 H.out hj, HB2.out⟩

/-- what a law's operation may be -/
structure OpL (o : Op) : Prop where
  ok : o.ok
  b : o.b.length ≤ 4194304
  name : o.name.size ≤ 100
  to : o.to.size ≤ 100
def opV (o : Op) (v : Value) : Value := .agg #[.int .i64 o.kind, .string o.name, .string o.to, v]
set_option maxHeartbeats 4000000 in
set_option maxRecDepth 100000 in
theorem ldo_calls {w : World} {d : Nat} {st : DS} {S : Nat → Prop} (h : DevI w d st S) (hok : st.Ok) (hn : st.pend.length ≤ 100000) {o : Op} (ho : OpL o) {v : Value} (hv : Rd w v o.b) :
    Calls Try.prog 29 #[.pointer (some ⟨d, 0, none⟩), opV o v] w fun e w' => e = .returned (.int .i64 (st.doOp o).2) ∧ Res w w' d (st.doOp o).1 S := by
  have Hv := Lib.hid hv
  obtain ⟨A, c, rfl, _⟩ := hv
  have H := Lib.hid h
  have Hok := Lib.hid hok
  clear h hok
  have hb0 : Below w.heap.size w (w.alloc (.cells #[Value.int .i64 o.kind, .string o.name, .string o.to, .slice A o.b.length c] 51)) := (Below.refl _ _).alloc (Nat.le_refl _) _
  have Hb0 := Lib.hid hb0
  clear hb0
  have h1 := ho.name
  have h2 := ho.to
  have hs1 : o.name.size ≤ 9223372036854775807 := by omega
  have hs2 : o.to.size ≤ 9223372036854775807 := by omega
  have HL := Lib.hid ho
  clear h1 h2
  rcases ho.ok with hk | hk | hk | hk
  · have hr : st.doOp o = st.create o.name o.b := by simp [DS.doOp, hk]
    rw [hr]
    generalize hg : st.create o.name o.b = r at *
    have Hg := Lib.hid hg
    clear hr hg ho
    unfold opV
    simp only [hk] at Hb0 ⊢
    go_enter Try.func29, Try.ntmps29
    go_wp2_with fail
    refine (create_dev (H.out.below Hb0.out) (Hok.out.fuel hn) o.name (U8.below Hb0.out _ _ Hv.out) hs1 (by have := HL.out.b; omega) (Hok.out.bnow.get _) (by have := Hok.out.bnow.n; omega)).mono ?_
    rw [Hg.out]
    rintro e w1 ⟨rfl, hR⟩
    have HR := Lib.hid (hR.pre Hb0.out)
    clear hR
    go_wp2
    go_ret
    exact ⟨rfl, HR.out⟩
  · have hr : st.doOp o = st.append o.name o.b := by simp [DS.doOp, hk]
    rw [hr]
    generalize hg : st.append o.name o.b = r at *
    have Hg := Lib.hid hg
    clear hr hg ho
    unfold opV
    simp only [hk] at Hb0 ⊢
    go_enter Try.func29, Try.ntmps29
    go_wp2_with fail
    refine (append_dev (H.out.below Hb0.out) (Hok.out.fuel hn) o.name (U8.below Hb0.out _ _ Hv.out) (by have := HL.out.b; omega) hs1 (Hok.out.bnow.get _)).mono ?_
    rw [Hg.out]
    rintro e w1 ⟨rfl, hR⟩
    have HR := Lib.hid (hR.pre Hb0.out)
    clear hR
    go_wp2
    go_ret
    exact ⟨rfl, HR.out⟩
  · have hr : st.doOp o = st.rename o.name o.to := by simp [DS.doOp, hk]
    rw [hr]
    generalize hg : st.rename o.name o.to = r at *
    have Hg := Lib.hid hg
    clear hr hg ho
    unfold opV
    simp only [hk] at Hb0 ⊢
    go_enter Try.func29, Try.ntmps29
    go_wp2_with fail
    refine (rename_dev (H.out.below Hb0.out) (Hok.out.fuel hn) o.name o.to hs1 hs2 (Hok.out.bnow.get _)).mono ?_
    rw [Hg.out]
    rintro e w1 ⟨rfl, hR⟩
    have HR := Lib.hid (hR.pre Hb0.out)
    clear hR
    go_wp2
    go_ret
    exact ⟨rfl, HR.out⟩
  · have hr : st.doOp o = st.delete o.name := by simp [DS.doOp, hk]
    rw [hr]
    generalize hg : st.delete o.name = r at *
    have Hg := Lib.hid hg
    clear hr hg ho
    unfold opV
    simp only [hk] at Hb0 ⊢
    go_enter Try.func29, Try.ntmps29
    go_wp2_with fail
    refine (delete_dev (H.out.below Hb0.out) (Hok.out.fuel hn) o.name hs1 (Hok.out.bnow.get _)).mono ?_
    rw [Hg.out]
    rintro e w1 ⟨rfl, hR⟩
    have HR := Lib.hid (hR.pre Hb0.out)
    clear hR
    go_wp2
    go_ret
    exact ⟨rfl, HR.out⟩
theorem DS.Ok.doOp {d : DS} (h : d.Ok) (o : Op) : (d.doOp o).1.Ok := by
  unfold DS.doOp
  split
  · exact h.create _ _
  · split
    · exact h.append _ _
    · split
      · exact h.rename _ _
      · exact h.delete _
theorem DS.doOp_len (d : DS) (o : Op) : (d.doOp o).1.pend.length ≤ d.pend.length + 1 := by
  have hp := fun x => DS.perform_len d x
  unfold DS.doOp
  split
  · unfold DS.create; split
    · split
      · simp
      · exact hp _
    · simp
  · split
    · unfold DS.append; split
      · split
        · simp
        · exact hp _
      · simp
    · split
      · unfold DS.rename; split
        · exact hp _
        · simp
      · unfold DS.delete; split
        · exact hp _
        · simp

set_option maxHeartbeats 2000000 in
set_option maxRecDepth 20000 in
theorem loss_calls {w00 w : World} {t i : Nat} {xs : List Int} {S : Nat → Prop} (h : TapeO w00 t xs i w S) (hl : Below Bs.n w00 w) (hq : Bs.n ≤ w00.heap.size) (hi : i ≤ 900000000) :
    Calls Try.prog 31 #[.pointer (some ⟨t, 0, none⟩)] w fun e w' => e = .returned (.agg #[.int .i64 (tnext xs i 8 - 1), .int .i64 (tnext xs (i + 1) 8 - 1)]) ∧ TapeO w00 t xs (i + 2) w' S ∧ Fr S w w' ∧ U8 w w' ∧ Below Bs.n w00 w' := by
  have H := Lib.hid h
  have Hl := Lib.hid hl
  clear h hl
  have Hr := Lib.hid (tnext_range xs i (show (1 : Int) ≤ 8 by omega))
  have Hr2 := Lib.hid (tnext_range xs (i + 1) (show (1 : Int) ≤ 8 by omega))
  generalize hx : tnext xs i 8 = x at *
  generalize hu : tnext xs (i + 1) 8 = u at *
  have HX := Lib.hid hx
  have HU := Lib.hid hu
  clear hx hu
  have hb0 : Below w.heap.size w (w.alloc (.cells #[Value.int .i64 0, .int .i64 0] 32)) := (Below.refl _ _).alloc (Nat.le_refl _) _
  have hblk := heap_alloc_new w (.cells #[Value.int .i64 0, .int .i64 0] 32)
  have Hb0 := Lib.hid hb0
  have Hblk := Lib.hid hblk
  have hiff := H.out.iff
  have hlt := H.out.lt
  clear hb0 hblk
  obtain ⟨hx0, hx1⟩ := Hr.out
  obtain ⟨hu0, hu1⟩ := Hr2.out
  go_enter Try.func31, Try.ntmps31
  go_wp2_with fail
  refine (next_go (H.out.keep (Hb0.out.block t hlt)) (H.out.old Hl.out hq (Fr.below Hb0.out)) hq (by omega) 8 (by omega)).mono ?_
  rw [HX.out]
  rintro e w1 ⟨rfl, ht, hF, hu, hB⟩
  have HT1 := Lib.hid ht
  have HF1 := Lib.hid ((Fr.below Hb0.out).trans hF)
  have HB1 := Lib.hid hB
  have Hblk1 := Lib.hid ((hF.block w.heap.size (by simp) (fun e => by have := (hiff _).1 e; omega)).trans Hblk.out)
  clear ht hF hu hB
  go_wp2_with fail
  refine (next_go HT1.out HB1.out hq (by omega) 8 (by omega)).mono ?_
  rw [HU.out]
  rintro e w2 ⟨rfl, ht, hF, hu, hB⟩
  have HT2 := Lib.hid ht
  have HF2 := Lib.hid (HF1.out.trans hF)
  have hblk2 := (hF.block w.heap.size (Array.getElem?_eq_some_iff.1 Hblk1.out).1 (fun e => by have := (hiff _).1 e; omega)).trans Hblk1.out
  have c0 : w2.cell? ⟨w.heap.size, 0, none⟩ = some (.int .i64 0) := (blk_cell hblk2 0).trans rfl
  have c1 : w2.cell? ⟨w.heap.size, 1, none⟩ = some (.int .i64 0) := (blk_cell hblk2 1).trans rfl
  have f0 := blk_frozen hblk2 0
  have f1 := blk_frozen hblk2 1
  clear ht hF hu hB hblk2
  go_wp2
  refine bodyPost_ret (v := .agg #[.int .i64 (x - 1), .int .i64 (u - 1)]) ?_ rfl ?_
  · have hres : Try.f31.results = #[.cell 2 32] := by kernel_rfl
    simp only [results, hres]
    go_simp
  · have hF3 : Fr S w ((w2.setCell ⟨w.heap.size, 0, none⟩ (.int .i64 (x - 1))).setCell ⟨w.heap.size, 1, none⟩ (.int .i64 (u - 1))) := by
      have h1 : Below w.heap.size w2 ((w2.setCell ⟨w.heap.size, 0, none⟩ (.int .i64 (x - 1))).setCell ⟨w.heap.size, 1, none⟩ (.int .i64 (u - 1))) := ((Below.refl w.heap.size w2).setCell (p := ⟨w.heap.size, 0, none⟩) (Nat.le_refl _) _).setCell (p := ⟨w.heap.size, 1, none⟩) (Nat.le_refl _) _
      exact ⟨h1.os.trans HF2.out.os, h1.tape.trans HF2.out.tape, h1.output.trans HF2.out.output, Nat.le_trans HF2.out.size h1.size, fun j hj hn => (h1.block j hj).trans (HF2.out.block j hj hn)⟩
    have h4 : ∀ j, j < w.heap.size → ((w2.setCell ⟨w.heap.size, 0, none⟩ (.int .i64 (x - 1))).setCell ⟨w.heap.size, 1, none⟩ (.int .i64 (u - 1))).heap[j]? = w2.heap[j]? := fun j hj => by
      rw [Below.heap_setCell _ _ _ _ (by simp only; omega), Below.heap_setCell _ _ _ _ (by simp only; omega)]
    exact ⟨rfl, HT2.out.keep (h4 t hlt), hF3, hF3.u8 fun j hj => (stable_tape w00 t xs _).no8 H.out hj, H.out.old Hl.out hq hF3⟩

theorem nm_ne (j : Nat) : nm j ≠ ⟨#[122]⟩ := by
  match j with
  | 0 => decide
  | 1 => decide
  | 2 => decide
  | 3 => decide
  | 4 => decide
  | 5 => decide
  | 6 => decide
  | j + 7 => simp [nm]
theorem fr_new {S T : Nat → Prop} {w w4 w5 : World} (h : Fr S w w4) (k : Fr T w4 w5) (hT : ∀ i, T i → w.heap.size ≤ i) : Fr S w w5 :=
  ⟨k.os.trans h.os, k.tape.trans h.tape, k.output.trans h.output, Nat.le_trans h.size k.size, fun j hj hn => (k.block j (Nat.lt_of_lt_of_le hj h.size) fun e => by have := hT j e; omega).trans (h.block j hj hn)⟩
theorem no8_of {w : World} {i : Nat} {cs : Array Value} {e : TypeId} {fr : Nat × Nat} (h : w.heap[i]? = some (.cells cs e fr)) (he : e ≠ 5) (hB : Bs.n ≤ i) : ¬ Own8 w i := by
  rintro (h1 | ⟨cs', fr', h1⟩)
  · omega
  · rw [h] at h1; injection h1 with h1; injection h1 with _ h1; exact he h1
/-- what an operation of the tape is -/
structure OpT (o : Op) : Prop where
  l : OpL o
  name : o.name ≠ ⟨#[122]⟩
  to : o.to ≠ ⟨#[122]⟩

set_option maxHeartbeats 4000000 in
set_option maxRecDepth 20000 in
theorem operation_calls {w00 w : World} {t i : Nat} {xs : List Int} {S : Nat → Prop} (h : TapeO w00 t xs i w S) (hl : Below Bs.n w00 w) (hq : Bs.n ≤ w00.heap.size) (hi : i ≤ 800000000) :
    Calls Try.prog 30 #[.pointer (some ⟨t, 0, none⟩)] w fun e w' => ∃ o v i', e = .returned (opV o v) ∧ Rd w' v o.b ∧ OpT o ∧ i ≤ i' ∧ i' ≤ i + 20 ∧ TapeO w00 t xs i' w' S ∧ Fr S w w' := by
  have H := Lib.hid h
  have Hl := Lib.hid hl
  clear h hl
  have Hr := Lib.hid (tnext_range xs i (show (1 : Int) ≤ 4 by omega))
  generalize hx : tnext xs i 4 = x at *
  have HX := Lib.hid hx
  have hb0 : Below w.heap.size w (w.alloc (.cells #[Value.int .i64 0, .string ⟨#[]⟩, .string ⟨#[]⟩, .slice none 0 0] 51)) := (Below.refl _ _).alloc (Nat.le_refl _) _
  have hblk := heap_alloc_new w (.cells #[Value.int .i64 0, .string ⟨#[]⟩, .string ⟨#[]⟩, .slice none 0 0] 51)
  have Hb0 := Lib.hid hb0
  have Hblk := Lib.hid hblk
  have hiff := H.out.iff
  have hlt := H.out.lt
  clear hb0 hblk hx
  obtain ⟨hx0, hx1⟩ := Hr.out
  go_enter Try.func30, Try.ntmps30
  go_wp2_with fail
  refine (next_go (H.out.keep (Hb0.out.block t hlt)) (H.out.old Hl.out hq (Fr.below Hb0.out)) hq (by omega) 4 (by omega)).mono ?_
  rw [HX.out]
  rintro e w1 ⟨rfl, ht, hF, hu, hB⟩
  have HT1 := Lib.hid ht
  have HF1 := Lib.hid ((Fr.below Hb0.out).trans hF)
  have HB1 := Lib.hid hB
  have Hblk1 := Lib.hid ((hF.block w.heap.size (by simp) (fun e => by have := (hiff _).1 e; omega)).trans Hblk.out)
  clear ht hF hu hB
  go_wp2_with fail
  refine (name_calls HT1.out HB1.out hq (by omega)).mono ?_
  rintro e w2 ⟨rfl, ht, hF, hu, hB⟩
  have HT2 := Lib.hid ht
  have HF2 := Lib.hid (HF1.out.trans hF)
  have HB2 := Lib.hid hB
  have Hblk2 := Lib.hid ((hF.block w.heap.size (Array.getElem?_eq_some_iff.1 Hblk1.out).1 (fun e => by have := (hiff _).1 e; omega)).trans Hblk1.out)
  have hws : w.heap.size < w2.heap.size := (Array.getElem?_eq_some_iff.1 Hblk2.out).1
  clear ht hF hu hB
  have Hn1 := Lib.hid (nm_size (nmJ xs (i + 1)))
  have Hn2 := Lib.hid (nm_ne (nmJ xs (i + 1)))
  generalize nm (nmJ xs (i + 1)) = s1 at *
  have hcase : x = 0 ∨ x = 1 ∨ x = 2 ∨ x = 3 := by omega
  rcases hcase with rfl | rfl | rfl | rfl
  · have hbB : Below w2.heap.size w2 (w2.alloc (.cells #[Value.int .i64 1, .string s1, .string ⟨#[]⟩, .slice none 0 0] 51)) := (Below.refl _ _).alloc (Nat.le_refl _) _
    have hblB := heap_alloc_new w2 (.cells #[Value.int .i64 1, .string s1, .string ⟨#[]⟩, .slice none 0 0] 51)
    have HbB := Lib.hid hbB
    have HblB := Lib.hid hblB
    have HblA := Lib.hid (blk_below Hblk2.out hbB)
    clear hbB hblB
    have Hr6 := Lib.hid (tnext_range xs (i + 3) (show (1 : Int) ≤ 6 by omega))
    obtain ⟨n, hny⟩ : ∃ n : Nat, tnext xs (i + 3) 6 = n := ⟨(tnext xs (i + 3) 6).toNat, by have := Hr6.out; omega⟩
    have hn6 : n ≤ 5 := by have := Hr6.out; omega
    have Hny := Lib.hid hny
    clear hny
    go_wp2_with fail
    refine (next_go (HT2.out.keep (HbB.out.block t HT2.out.lt)) (HT2.out.old HB2.out hq (Fr.below HbB.out)) hq (by omega) 6 (by omega)).mono ?_
    rw [show tnext xs (i + 1 + 2) 6 = n from Hny.out]
    rintro e w3 ⟨rfl, ht, hF, hu, hB⟩
    have HT3 := Lib.hid ht
    have HB3 := Lib.hid hB
    have HF3 := Lib.hid ((HF2.out.trans (Fr.below HbB.out)).trans hF)
    have HA3 := Lib.hid ((hF.block w.heap.size (Array.getElem?_eq_some_iff.1 HblA.out).1 (fun e => by have := (hiff _).1 e; omega)).trans HblA.out)
    have HBb3 := Lib.hid ((hF.block w2.heap.size (Array.getElem?_eq_some_iff.1 HblB.out).1 (fun e => by have := (hiff _).1 e; omega)).trans HblB.out)
    clear ht hF hu hB
    go_wp2_with fail
    refine (bytes_calls HT3.out HB3.out hq (by omega) n (by omega) 4 (by omega)).mono ?_
    rintro e w4 ⟨v4, rfl, ho, ht, hF, hu, hB⟩
    have HT4 := Lib.hid ht
    have HF4 := Lib.hid (HF3.out.trans hF)
    have Hv4 := Lib.hid (Rd.own ho)
    obtain ⟨A4, c4, rfl⟩ := own_form ho
    have hA := (hF.block w.heap.size (Array.getElem?_eq_some_iff.1 HA3.out).1 (fun e => by have := (hiff _).1 e; omega)).trans HA3.out
    have hB4 := (hF.block w2.heap.size (Array.getElem?_eq_some_iff.1 HBb3.out).1 (fun e => by have := (hiff _).1 e; omega)).trans HBb3.out
    have HA4 := Lib.hid hA
    have HBb4 := Lib.hid hB4
    have bl := tbytes_len xs (i + 1 + 2 + 1) n 4
    generalize tbytes xs (i + 1 + 2 + 1) n 4 = bs at *
    have a0 : w4.cell? ⟨w.heap.size, 0, none⟩ = some (.int .i64 0) := (blk_cell hA 0).trans rfl
    have a1 : w4.cell? ⟨w.heap.size, 1, none⟩ = some (.string ⟨#[]⟩) := (blk_cell hA 1).trans rfl
    have a2 : w4.cell? ⟨w.heap.size, 2, none⟩ = some (.string ⟨#[]⟩) := (blk_cell hA 2).trans rfl
    have a3 : w4.cell? ⟨w.heap.size, 3, none⟩ = some (.slice none 0 0) := (blk_cell hA 3).trans rfl
    have fa0 := blk_frozen hA 0
    have fa1 := blk_frozen hA 1
    have fa2 := blk_frozen hA 2
    have fa3 := blk_frozen hA 3
    have b0 : w4.cell? ⟨w2.heap.size, 0, none⟩ = some (.int .i64 1) := (blk_cell hB4 0).trans rfl
    have b1 : w4.cell? ⟨w2.heap.size, 1, none⟩ = some (.string s1) := (blk_cell hB4 1).trans rfl
    have b2 : w4.cell? ⟨w2.heap.size, 2, none⟩ = some (.string ⟨#[]⟩) := (blk_cell hB4 2).trans rfl
    have b3 : w4.cell? ⟨w2.heap.size, 3, none⟩ = some (.slice none 0 0) := (blk_cell hB4 3).trans rfl
    have fb2 := blk_frozen hB4 2
    have fb3 := blk_frozen hB4 3
    clear hA hB4
    clear ho ht hF hu hB
    have hbsA : Bs.n ≤ w.heap.size := Nat.le_trans hq Hl.out.size
    go_wp2
    refine bodyPost_ret (v := opV ⟨1, s1, ⟨#[]⟩, bs⟩ (.slice A4 n c4)) ?_ rfl ?_
    · have hres : Try.f30.results = #[.cell 2 51] := by kernel_rfl
      simp only [results, hres]
      go_simp
      try rfl
    · have key : ∀ W5, Fr (fun j => j = w.heap.size ∨ j = w2.heap.size) w4 W5 → Rd W5 (.slice A4 n c4) bs ∧ TapeO w00 t xs (i + 1 + 2 + 1 + n) W5 S ∧ Fr S w W5 := fun W5 hk => by
        refine ⟨hk.u8 (fun j hj => ?_) _ _ Hv4.out, HT4.out.keep (hk.block t HT4.out.lt (by omega)), fr_new HF4.out hk (fun j hj => by omega)⟩
        rcases hj with rfl | rfl
        · exact no8_of HA4.out (by decide) hbsA
        · exact no8_of HBb4.out (by decide) (by omega)
      refine ⟨⟨1, s1, ⟨#[]⟩, bs⟩, (.slice A4 n c4), (i + 1 + 2 + 1 + n), rfl, (key _ ?_).1, ⟨⟨.inl rfl, by show bs.length ≤ _; omega, by show s1.size ≤ 100; have := Hn1.out; omega, by show (⟨#[]⟩ : ByteArray).size ≤ 100; decide⟩, Hn2.out, by show (⟨#[]⟩ : ByteArray) ≠ ⟨#[122]⟩; decide⟩, by omega, by omega, (key _ ?_).2⟩
      all_goals (repeat (first | refine Fr.trans ?_ (Fr.setCell (by simp) _) | exact Fr.refl _ _))
  · have hbB : Below w2.heap.size w2 (w2.alloc (.cells #[Value.int .i64 2, .string s1, .string ⟨#[]⟩, .slice none 0 0] 51)) := (Below.refl _ _).alloc (Nat.le_refl _) _
    have hblB := heap_alloc_new w2 (.cells #[Value.int .i64 2, .string s1, .string ⟨#[]⟩, .slice none 0 0] 51)
    have HbB := Lib.hid hbB
    have HblB := Lib.hid hblB
    have HblA := Lib.hid (blk_below Hblk2.out hbB)
    clear hbB hblB
    have Hr6 := Lib.hid (tnext_range xs (i + 3) (show (1 : Int) ≤ 6 by omega))
    obtain ⟨n, hny⟩ : ∃ n : Nat, tnext xs (i + 3) 6 = n := ⟨(tnext xs (i + 3) 6).toNat, by have := Hr6.out; omega⟩
    have hn6 : n ≤ 5 := by have := Hr6.out; omega
    have Hny := Lib.hid hny
    clear hny
    go_wp2_with fail
    refine (next_go (HT2.out.keep (HbB.out.block t HT2.out.lt)) (HT2.out.old HB2.out hq (Fr.below HbB.out)) hq (by omega) 6 (by omega)).mono ?_
    rw [show tnext xs (i + 1 + 2) 6 = n from Hny.out]
    rintro e w3 ⟨rfl, ht, hF, hu, hB⟩
    have HT3 := Lib.hid ht
    have HB3 := Lib.hid hB
    have HF3 := Lib.hid ((HF2.out.trans (Fr.below HbB.out)).trans hF)
    have HA3 := Lib.hid ((hF.block w.heap.size (Array.getElem?_eq_some_iff.1 HblA.out).1 (fun e => by have := (hiff _).1 e; omega)).trans HblA.out)
    have HBb3 := Lib.hid ((hF.block w2.heap.size (Array.getElem?_eq_some_iff.1 HblB.out).1 (fun e => by have := (hiff _).1 e; omega)).trans HblB.out)
    clear ht hF hu hB
    go_wp2_with fail
    refine (bytes_calls HT3.out HB3.out hq (by omega) n (by omega) 4 (by omega)).mono ?_
    rintro e w4 ⟨v4, rfl, ho, ht, hF, hu, hB⟩
    have HT4 := Lib.hid ht
    have HF4 := Lib.hid (HF3.out.trans hF)
    have Hv4 := Lib.hid (Rd.own ho)
    obtain ⟨A4, c4, rfl⟩ := own_form ho
    have hA := (hF.block w.heap.size (Array.getElem?_eq_some_iff.1 HA3.out).1 (fun e => by have := (hiff _).1 e; omega)).trans HA3.out
    have hB4 := (hF.block w2.heap.size (Array.getElem?_eq_some_iff.1 HBb3.out).1 (fun e => by have := (hiff _).1 e; omega)).trans HBb3.out
    have HA4 := Lib.hid hA
    have HBb4 := Lib.hid hB4
    have bl := tbytes_len xs (i + 1 + 2 + 1) n 4
    generalize tbytes xs (i + 1 + 2 + 1) n 4 = bs at *
    have a0 : w4.cell? ⟨w.heap.size, 0, none⟩ = some (.int .i64 0) := (blk_cell hA 0).trans rfl
    have a1 : w4.cell? ⟨w.heap.size, 1, none⟩ = some (.string ⟨#[]⟩) := (blk_cell hA 1).trans rfl
    have a2 : w4.cell? ⟨w.heap.size, 2, none⟩ = some (.string ⟨#[]⟩) := (blk_cell hA 2).trans rfl
    have a3 : w4.cell? ⟨w.heap.size, 3, none⟩ = some (.slice none 0 0) := (blk_cell hA 3).trans rfl
    have fa0 := blk_frozen hA 0
    have fa1 := blk_frozen hA 1
    have fa2 := blk_frozen hA 2
    have fa3 := blk_frozen hA 3
    have b0 : w4.cell? ⟨w2.heap.size, 0, none⟩ = some (.int .i64 2) := (blk_cell hB4 0).trans rfl
    have b1 : w4.cell? ⟨w2.heap.size, 1, none⟩ = some (.string s1) := (blk_cell hB4 1).trans rfl
    have b2 : w4.cell? ⟨w2.heap.size, 2, none⟩ = some (.string ⟨#[]⟩) := (blk_cell hB4 2).trans rfl
    have b3 : w4.cell? ⟨w2.heap.size, 3, none⟩ = some (.slice none 0 0) := (blk_cell hB4 3).trans rfl
    have fb2 := blk_frozen hB4 2
    have fb3 := blk_frozen hB4 3
    clear hA hB4
    clear ho ht hF hu hB
    have hbsA : Bs.n ≤ w.heap.size := Nat.le_trans hq Hl.out.size
    go_wp2
    refine bodyPost_ret (v := opV ⟨2, s1, ⟨#[]⟩, bs⟩ (.slice A4 n c4)) ?_ rfl ?_
    · have hres : Try.f30.results = #[.cell 2 51] := by kernel_rfl
      simp only [results, hres]
      go_simp
      try rfl
    · have key : ∀ W5, Fr (fun j => j = w.heap.size ∨ j = w2.heap.size) w4 W5 → Rd W5 (.slice A4 n c4) bs ∧ TapeO w00 t xs (i + 1 + 2 + 1 + n) W5 S ∧ Fr S w W5 := fun W5 hk => by
        refine ⟨hk.u8 (fun j hj => ?_) _ _ Hv4.out, HT4.out.keep (hk.block t HT4.out.lt (by omega)), fr_new HF4.out hk (fun j hj => by omega)⟩
        rcases hj with rfl | rfl
        · exact no8_of HA4.out (by decide) hbsA
        · exact no8_of HBb4.out (by decide) (by omega)
      refine ⟨⟨2, s1, ⟨#[]⟩, bs⟩, (.slice A4 n c4), (i + 1 + 2 + 1 + n), rfl, (key _ ?_).1, ⟨⟨.inr (.inl rfl), by show bs.length ≤ _; omega, by show s1.size ≤ 100; have := Hn1.out; omega, by show (⟨#[]⟩ : ByteArray).size ≤ 100; decide⟩, Hn2.out, by show (⟨#[]⟩ : ByteArray) ≠ ⟨#[122]⟩; decide⟩, by omega, by omega, (key _ ?_).2⟩
      all_goals (repeat (first | refine Fr.trans ?_ (Fr.setCell (by simp) _) | exact Fr.refl _ _))
  · have hbB : Below w2.heap.size w2 (w2.alloc (.cells #[Value.int .i64 3, .string s1, .string ⟨#[]⟩, .slice none 0 0] 51)) := (Below.refl _ _).alloc (Nat.le_refl _) _
    have hblB := heap_alloc_new w2 (.cells #[Value.int .i64 3, .string s1, .string ⟨#[]⟩, .slice none 0 0] 51)
    have HbB := Lib.hid hbB
    have HblB := Lib.hid hblB
    have HblA := Lib.hid (blk_below Hblk2.out hbB)
    clear hbB hblB
    have Hn3 := Lib.hid (nm_size (nmJ xs (i + 1 + 2)))
    have Hn4 := Lib.hid (nm_ne (nmJ xs (i + 1 + 2)))
    go_wp2_with fail
    refine (name_calls (HT2.out.keep (HbB.out.block t HT2.out.lt)) (HT2.out.old HB2.out hq (Fr.below HbB.out)) hq (by omega)).mono ?_
    rintro e w4 ⟨rfl, ht, hF, hu, hB⟩
    have HT4 := Lib.hid ht
    have HF4 := Lib.hid ((HF2.out.trans (Fr.below HbB.out)).trans hF)
    have hA := (hF.block w.heap.size (Array.getElem?_eq_some_iff.1 HblA.out).1 (fun e => by have := (hiff _).1 e; omega)).trans HblA.out
    have hB4 := (hF.block w2.heap.size (Array.getElem?_eq_some_iff.1 HblB.out).1 (fun e => by have := (hiff _).1 e; omega)).trans HblB.out
    have HA4 := Lib.hid hA
    have HBb4 := Lib.hid hB4
    have Hv4 := Lib.hid (Rd.nil w4)
    generalize nm (nmJ xs (i + 1 + 2)) = s2 at *
    have a0 : w4.cell? ⟨w.heap.size, 0, none⟩ = some (.int .i64 0) := (blk_cell hA 0).trans rfl
    have a1 : w4.cell? ⟨w.heap.size, 1, none⟩ = some (.string ⟨#[]⟩) := (blk_cell hA 1).trans rfl
    have a2 : w4.cell? ⟨w.heap.size, 2, none⟩ = some (.string ⟨#[]⟩) := (blk_cell hA 2).trans rfl
    have a3 : w4.cell? ⟨w.heap.size, 3, none⟩ = some (.slice none 0 0) := (blk_cell hA 3).trans rfl
    have fa0 := blk_frozen hA 0
    have fa1 := blk_frozen hA 1
    have fa2 := blk_frozen hA 2
    have fa3 := blk_frozen hA 3
    have b0 : w4.cell? ⟨w2.heap.size, 0, none⟩ = some (.int .i64 3) := (blk_cell hB4 0).trans rfl
    have b1 : w4.cell? ⟨w2.heap.size, 1, none⟩ = some (.string s1) := (blk_cell hB4 1).trans rfl
    have b2 : w4.cell? ⟨w2.heap.size, 2, none⟩ = some (.string ⟨#[]⟩) := (blk_cell hB4 2).trans rfl
    have b3 : w4.cell? ⟨w2.heap.size, 3, none⟩ = some (.slice none 0 0) := (blk_cell hB4 3).trans rfl
    have fb2 := blk_frozen hB4 2
    have fb3 := blk_frozen hB4 3
    clear hA hB4
    clear ht hF hu hB
    have hbsA : Bs.n ≤ w.heap.size := Nat.le_trans hq Hl.out.size
    go_wp2
    refine bodyPost_ret (v := opV ⟨3, s1, s2, []⟩ (.slice none 0 0)) ?_ rfl ?_
    · have hres : Try.f30.results = #[.cell 2 51] := by kernel_rfl
      simp only [results, hres]
      go_simp
      try rfl
    · have key : ∀ W5, Fr (fun j => j = w.heap.size ∨ j = w2.heap.size) w4 W5 → Rd W5 (.slice none 0 0) [] ∧ TapeO w00 t xs (i + 1 + 2 + 2) W5 S ∧ Fr S w W5 := fun W5 hk => by
        refine ⟨hk.u8 (fun j hj => ?_) _ _ Hv4.out, HT4.out.keep (hk.block t HT4.out.lt (by omega)), fr_new HF4.out hk (fun j hj => by omega)⟩
        rcases hj with rfl | rfl
        · exact no8_of HA4.out (by decide) hbsA
        · exact no8_of HBb4.out (by decide) (by omega)
      refine ⟨⟨3, s1, s2, []⟩, (.slice none 0 0), (i + 1 + 2 + 2), rfl, (key _ ?_).1, ⟨⟨.inr (.inr (.inl rfl)), by show ([] : List Int).length ≤ 4194304; decide, by show s1.size ≤ 100; have := Hn1.out; omega, by show s2.size ≤ 100; have := Hn3.out; omega⟩, Hn2.out, Hn4.out⟩, by omega, by omega, (key _ ?_).2⟩
      all_goals (repeat (first | refine Fr.trans ?_ (Fr.setCell (by simp) _) | exact Fr.refl _ _))
  · have hbB : Below w2.heap.size w2 (w2.alloc (.cells #[Value.int .i64 4, .string s1, .string ⟨#[]⟩, .slice none 0 0] 51)) := (Below.refl _ _).alloc (Nat.le_refl _) _
    have hblB := heap_alloc_new w2 (.cells #[Value.int .i64 4, .string s1, .string ⟨#[]⟩, .slice none 0 0] 51)
    have HbB := Lib.hid hbB
    have HblB := Lib.hid hblB
    have HblA := Lib.hid (blk_below Hblk2.out hbB)
    clear hbB hblB
    have hA := HblA.out
    have hB4 := HblB.out
    have HT4 := Lib.hid (HT2.out.keep (HbB.out.block t HT2.out.lt))
    have HF4 := Lib.hid (HF2.out.trans (Fr.below HbB.out))
    have HA4 := Lib.hid hA
    have HBb4 := Lib.hid hB4
    have Hv4 := Lib.hid (Rd.nil (w2.alloc (.cells #[Value.int .i64 4, .string s1, .string ⟨#[]⟩, .slice none 0 0] 51)))
    generalize hw4 : w2.alloc (.cells #[Value.int .i64 4, .string s1, .string ⟨#[]⟩, .slice none 0 0] 51) = w4 at *
    have a0 : w4.cell? ⟨w.heap.size, 0, none⟩ = some (.int .i64 0) := (blk_cell hA 0).trans rfl
    have a1 : w4.cell? ⟨w.heap.size, 1, none⟩ = some (.string ⟨#[]⟩) := (blk_cell hA 1).trans rfl
    have a2 : w4.cell? ⟨w.heap.size, 2, none⟩ = some (.string ⟨#[]⟩) := (blk_cell hA 2).trans rfl
    have a3 : w4.cell? ⟨w.heap.size, 3, none⟩ = some (.slice none 0 0) := (blk_cell hA 3).trans rfl
    have fa0 := blk_frozen hA 0
    have fa1 := blk_frozen hA 1
    have fa2 := blk_frozen hA 2
    have fa3 := blk_frozen hA 3
    have b0 : w4.cell? ⟨w2.heap.size, 0, none⟩ = some (.int .i64 4) := (blk_cell hB4 0).trans rfl
    have b1 : w4.cell? ⟨w2.heap.size, 1, none⟩ = some (.string s1) := (blk_cell hB4 1).trans rfl
    have b2 : w4.cell? ⟨w2.heap.size, 2, none⟩ = some (.string ⟨#[]⟩) := (blk_cell hB4 2).trans rfl
    have b3 : w4.cell? ⟨w2.heap.size, 3, none⟩ = some (.slice none 0 0) := (blk_cell hB4 3).trans rfl
    have fb2 := blk_frozen hB4 2
    have fb3 := blk_frozen hB4 3
    clear hA hB4
    have hbsA : Bs.n ≤ w.heap.size := Nat.le_trans hq Hl.out.size
    go_wp2
    refine bodyPost_ret (v := opV ⟨4, s1, ⟨#[]⟩, []⟩ (.slice none 0 0)) ?_ rfl ?_
    · have hres : Try.f30.results = #[.cell 2 51] := by kernel_rfl
      simp only [results, hres]
      go_simp
      try rfl
    · have key : ∀ W5, Fr (fun j => j = w.heap.size ∨ j = w2.heap.size) w4 W5 → Rd W5 (.slice none 0 0) [] ∧ TapeO w00 t xs (i + 1 + 2) W5 S ∧ Fr S w W5 := fun W5 hk => by
        refine ⟨hk.u8 (fun j hj => ?_) _ _ Hv4.out, HT4.out.keep (hk.block t HT4.out.lt (by omega)), fr_new HF4.out hk (fun j hj => by omega)⟩
        rcases hj with rfl | rfl
        · exact no8_of HA4.out (by decide) hbsA
        · exact no8_of HBb4.out (by decide) (by omega)
      refine ⟨⟨4, s1, ⟨#[]⟩, []⟩, (.slice none 0 0), (i + 1 + 2), rfl, (key _ ?_).1, ⟨⟨.inr (.inr (.inr rfl)), by show ([] : List Int).length ≤ 4194304; decide, by show s1.size ≤ 100; have := Hn1.out; omega, by show (⟨#[]⟩ : ByteArray).size ≤ 100; decide⟩, Hn2.out, by show (⟨#[]⟩ : ByteArray) ≠ ⟨#[122]⟩; decide⟩, by omega, by omega, (key _ ?_).2⟩
      all_goals (repeat (first | refine Fr.trans ?_ (Fr.setCell (by simp) _) | exact Fr.refl _ _))
end Go.Proofs.Ytjcjgeneehhgbaa.Dev
