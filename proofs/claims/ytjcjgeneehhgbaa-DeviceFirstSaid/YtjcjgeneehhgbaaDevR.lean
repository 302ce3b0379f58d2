/-
  More on resources side by side: turning them, dropping them, a block that stands; 'equal' and 'played' on them.
-/
import Derived.Test.YtjcjgeneehhgbaaDevQ
import Derived.Test.YtjcjgeneehhgbaaDevV
namespace Go.Proofs.Ytjcjgeneehhgbaa.Dev
open Go.RowKit Go.Proofs
set_option linter.unusedVariables false
set_option linter.unusedSectionVars false
set_option linter.unusedSimpArgs false
variable [Bs]

theorem star_rot {A B C : Own} {w : World} {S : Nat → Prop} (h : star A (star B C) w S) : star B (star A C) w S := by
  obtain ⟨S1, S2, h1, ⟨T1, T2, k1, k2, kd, ks⟩, hd, hs⟩ := h
  refine ⟨T1, fun i => S1 i ∨ T2 i, k1, ⟨S1, T2, h1, k2, fun i h1 h2 => hd i h1 ((ks i).2 (.inr h2)), fun i => Iff.rfl⟩, fun i h1 h2 => ?_, fun i => ?_⟩
  · rcases h2 with h2 | h2
    · exact hd i h2 ((ks i).2 (.inl h1))
    · exact kd i h1 h2
  · rw [hs, ks]
    constructor
    · rintro (h | h | h)
      · exact .inr (.inl h)
      · exact .inl h
      · exact .inr (.inr h)
    · rintro (h | h | h)
      · exact .inr (.inl h)
      · exact .inl h
      · exact .inr (.inr h)
theorem star_in {A B B' : Own} {w : World} {S : Nat → Prop} (hb : ∀ T, B w T → B' w T) (h : star A B w S) : star A B' w S := by
  obtain ⟨S1, S2, h1, h2, hd, hs⟩ := h
  exact ⟨S1, S2, h1, hb _ h2, hd, hs⟩
theorem LS.imp {w00 w : World} {A B : Own} (hb : ∀ S, A w S → B w S) (h : LS w00 A w) : LS w00 B w := by
  obtain ⟨S, h1, h2⟩ := h
  exact ⟨S, hb S h1, h2⟩
section
variable {w00 w w' : World} {A B C D E F : Own}
theorem LS.rot3 (h : LS w00 (star A (star B (star C D))) w) : LS w00 (star C (star A (star B D))) w := h.imp fun S h => star_rot (star_in (fun _ => star_rot) h)
theorem LS.rot4 (h : LS w00 (star A (star B (star C (star D E)))) w) : LS w00 (star D (star A (star B (star C E)))) w := h.imp fun S h => star_rot (star_in (fun _ h => star_rot (star_in (fun _ => star_rot) h)) h)
theorem LS.rot5 (h : LS w00 (star A (star B (star C (star D (star E F))))) w) : LS w00 (star E (star A (star B (star C (star D F))))) w :=
  h.imp fun S h => star_rot (star_in (fun _ h => star_rot (star_in (fun _ h => star_rot (star_in (fun _ => star_rot) h)) h)) h)
/-- a block that stands -/
def BlkO (g : Nat) (cs : Array Value) (t : TypeId) : Own := fun w S => w.heap[g]? = some (.cells cs t (0, 0)) ∧ t ≠ 5 ∧ Bs.n ≤ g ∧ ∀ i, S i ↔ i = g
theorem stable_blk (g : Nat) (cs : Array Value) (t : TypeId) : Stable (BlkO g cs t) where
  lt := fun h hi => by
    rw [(h.2.2.2 _).1 hi]; exact (Array.getElem?_eq_some_iff.1 h.1).1
  ge := fun h hi => by
    rw [(h.2.2.2 _).1 hi]; exact h.2.2.1
  no8 := fun h hi => by
    rw [(h.2.2.2 _).1 hi]
    rintro (e | ⟨cs', fr, e⟩)
    · have := h.2.2.1; omega
    · rw [h.1] at e
      injection e with e
      injection e with _ e
      exact h.2.1 e
  move := fun h hb _ => ⟨(hb _ ((h.2.2.2 _).2 rfl)).trans h.1, h.2⟩
theorem LS.alloc (hB : Stable B) (hq : Bs.n ≤ w00.heap.size) (h : LS w00 B w) (cs : Array Value) (t : TypeId) (ht : t ≠ 5) : LS w00 (star (BlkO w.heap.size cs t) B) (w.alloc (.cells cs t)) ∧ U8 w (w.alloc (.cells cs t)) :=
  LS.fresh (B := BlkO w.heap.size cs t) hB h ((Below.refl _ _).alloc (Nat.le_refl _) _) (S1 := (· = w.heap.size)) ⟨heap_alloc_new w _, ht, Nat.le_trans hq h.size, fun i => Iff.rfl⟩ (fun i hi => Nat.le_of_eq hi.symm)
theorem LS.blk {g : Nat} {cs : Array Value} {t : TypeId} (h : LS w00 (star (BlkO g cs t) B) w) : w.heap[g]? = some (.cells cs t (0, 0)) := by
  obtain ⟨S, ⟨S1, S2, h1, _⟩, _⟩ := h
  exact h1.1
theorem equal_L {a b : Nat} {sa sb : DS} (hB : Stable B) (h : LS w00 (star (DevO a sa) (star (DevO b sb) B)) w) (oa : sa.Ok) (ob : sb.Ok) (ka : KOk sa) (he : eqD sa sb = true) :
    Calls Try.prog 38 #[.pointer (some ⟨a, 0, none⟩), .pointer (some ⟨b, 0, none⟩)] w fun e w' => e = .returned (.bool true) ∧ LS w00 (star (DevO a sa) (star (DevO b sb) B)) w' ∧ U8 w w' := by
  have h' := h
  obtain ⟨S, ⟨S1, S2, h1, ⟨S3, S4, h3, _⟩, _⟩, _⟩ := h'
  refine (equal_calls h1 h3 oa ob (fun k hk => ?_) he).mono ?_
  · unfold keysD sortK at hk
    obtain ⟨l, hl, rfl⟩ := List.mem_map.1 hk
    have hl2 := (List.mergeSort_perm _ _).mem_iff.1 hl
    obtain ⟨q, hq, rfl⟩ := List.mem_map.1 hl2
    obtain ⟨p, hp, rfl⟩ := List.mem_map.1 hq
    rw [lb_bl]
    exact valid_size (ka.now p hp)
  · rintro e w' ⟨rfl, hb⟩
    exact ⟨rfl, h.below ((stable_dev a sa).star ((stable_dev b sb).star hB)) hb⟩
end
theorem doOp_still {d : DS} (h : d.fuse = 0) (o : Op) : (d.doOp o).1.fuse = 0 ∧ (d.doOp o).1.down = d.down ∧ (d.doOp o).1.dur = d.dur := by
  unfold DS.doOp
  split
  · unfold DS.create
    split
    · split
      · exact ⟨h, rfl, rfl⟩
      · rw [perform_zero h]; exact ⟨h, rfl, rfl⟩
    · exact ⟨h, rfl, rfl⟩
  · split
    · unfold DS.append
      split
      · split
        · exact ⟨h, rfl, rfl⟩
        · rw [perform_zero h]; exact ⟨h, rfl, rfl⟩
      · exact ⟨h, rfl, rfl⟩
    · split
      · unfold DS.rename
        split
        · rw [perform_zero h]; exact ⟨h, rfl, rfl⟩
        · exact ⟨h, rfl, rfl⟩
      · unfold DS.delete
        split
        · rw [perform_zero h]; exact ⟨h, rfl, rfl⟩
        · exact ⟨h, rfl, rfl⟩
/-- a device that has run without a fuse -/
structure Run (st : DS) (n : Nat) : Prop where
  ok : st.Ok
  key : KOk st
  fuse : st.fuse = 0
  down : st.down = false
  pend : st.pend.length ≤ n
theorem Run.new : Run DS.new 0 := ⟨DS.ok_new, KOk.new, rfl, rfl, Nat.le_refl _⟩
theorem Run.doOp {st : DS} {n : Nat} (h : Run st n) (o : Op) : Run (st.doOp o).1 (n + 1) := by
  have hs := doOp_still h.fuse o
  have hl := DS.doOp_len st o
  exact ⟨h.ok.doOp o, h.key.doOp o, hs.1, hs.2.1.trans h.down, by have := h.pend; omega⟩
theorem Run.sync {st : DS} {n : Nat} (h : Run st n) : Run st.sync.1 0 ∧ st.sync = (st.settle st.pend, 0) := by
  have e := sync_zero h.fuse h.down
  refine ⟨⟨h.ok.sync, h.key.sync, ?_, ?_, ?_⟩, e⟩
  · rw [e]; exact h.fuse
  · rw [e]; exact h.down
  · rw [e]; exact Nat.le_refl _
theorem Run.mono {st : DS} {n m : Nat} (h : Run st n) (hm : n ≤ m) : Run st m := ⟨h.ok, h.key, h.fuse, h.down, Nat.le_trans h.pend hm⟩

set_option maxHeartbeats 4000000 in
set_option maxRecDepth 100000 in
theorem played_L {w00 w : World} {t i : Nat} {xs : List Int} {B : Own} (hB : Stable B) (hq : Bs.n ≤ w00.heap.size) (h : LS w00 (star (TapeO w00 t xs i) B) w) (hi : i ≤ 700000000) (n : Nat) (hn : n ≤ 100) :
    Calls Try.prog 36 #[.pointer (some ⟨t, 0, none⟩), .int .i64 n] w fun e w' => ∃ d st i', e = .returned (.pointer (some ⟨d, 0, none⟩)) ∧ Run st n ∧ i ≤ i' ∧ i' ≤ i + 10000 ∧ LS w00 (star (DevO d st) (star (TapeO w00 t xs i') B)) w' ∧ U8 w w' := by
  have HL := Lib.hid h
  clear h
  have hT := fun i => stable_tape w00 t xs i
  go_enter Try.func36, Try.ntmps36
  go_wp2_with fail
  refine (new_L ((hT i).star hB) hq HL.out).mono ?_
  rintro e w1 ⟨d, rfl, h1, hu1⟩
  have HL1 := Lib.hid (LS.rot h1)
  have HU1 := Lib.hid hu1
  clear h1 hu1 HL
  go_wp2_with fail
  refine (next_L ((stable_dev d _).star hB) hq HL1.out (by omega) (n + 1) (by omega)).mono ?_
  rintro e w2 ⟨rfl, h1, hu⟩
  have HL2 := Lib.hid h1
  have HU2 := Lib.hid (HU1.out.trans hu)
  clear h1 hu HL1 HU1
  have htr := tnext_range xs i (k := (n : Int) + 1) (by omega)
  obtain ⟨m, hm⟩ : ∃ m : Nat, tnext xs i ((n : Int) + 1) = m := ⟨(tnext xs i ((n : Int) + 1)).toNat, by omega⟩
  have hmn : m ≤ n := by omega
  rw [hm]
  clear hm htr
  go_wp2
  go_loopw [6] (fun k wr => ∃ (q : Nat) (st : DS) (j p : Nat), q ≤ m ∧ k = .int .i64 q ∧ LS w00 (star (TapeO w00 t xs j) (star (DevO d st) B)) wr ∧ U8 w wr ∧ Run st p ∧ p + q ≤ n ∧ i ≤ j ∧ j + 30 * q ≤ i + 5000) (fun k _ => (intOf k).toNat)
  case atStart => exact ⟨m, _, i + 1, 0, Nat.le_refl _, rfl, HL2.out, HU2.out, Run.new, by omega, by omega, by omega⟩
  case round =>
    obtain ⟨q, st, j, p, hqm, rfl, hL, hU, hR, hp, hj1, hj2⟩ := hrel
    have HL := Lib.hid hL
    have HU := Lib.hid hU
    have HR := Lib.hid hR
    clear hL hU hR HL2 HU2
    by_cases h0 : 0 < q
    · go_wp2_with fail
      refine (next_L ((stable_dev d _).star hB) hq HL.out (by omega) 4 (by omega)).mono ?_
      rintro e w3 ⟨rfl, h1, hu⟩
      have HL3 := Lib.hid h1
      have HU3 := Lib.hid (HU.out.trans hu)
      clear h1 hu HL HU
      by_cases hz : tnext xs j 4 = 0
      · rw [hz]
        have hs := HR.out.sync
        have Hs := Lib.hid hs
        have Hrot := Lib.hid (LS.rot HL3.out)
        clear hs hz HL3
        go_wp2_with fail
        refine (sync_L ((hT _).star hB) Hrot.out (st' := st.sync.1) (r := 0) (by rw [Hs.out.2]) (HR.out.ok.fuel (by have := HR.out.pend; omega)) HR.out.ok.fits).mono ?_
        rintro e w4 ⟨rfl, h1, hu⟩
        have HL4 := Lib.hid (LS.rot h1)
        have HU4 := Lib.hid (HU3.out.trans hu)
        have HR4 := Lib.hid (Hs.out.1)
        clear h1 hu Hrot HU3 Hs
        generalize st.sync.1 = st2 at *
        go_wp2
        exact ⟨⟨q - 1, st2, j + 1, 0, by omega, by go_num, HL4.out, HU4.out, HR4.out, by omega, by omega, by omega⟩, by simp [intOf]; omega⟩
      · have hzd : decide (tnext xs j 4 = 0) = false := by simpa using hz
        have hzb : (tnext xs j 4 == 0) = false := by simpa using hz
        go_wp2_with fail
        refine (operation_L ((stable_dev d _).star hB) hq HL3.out (by omega)).mono ?_
        rintro e w4 ⟨o, v, i', rfl, hv, ho, hi1, hi2, h1, hu⟩
        have HL4 := Lib.hid (LS.rot h1)
        have HU4 := Lib.hid (HU3.out.trans hu)
        have Hv := Lib.hid hv
        have Ho := Lib.hid ho
        clear h1 hu hv ho HL3 HU3
        go_wp2_with fail
        refine (ldo_L ((hT _).star hB) HL4.out (st' := (st.doOp o).1) (r := (st.doOp o).2) rfl HR.out.ok (by have := HR.out.pend; omega) Ho.out.l Hv.out).mono ?_
        rintro e w5 ⟨rfl, h1, hu⟩
        have HL5 := Lib.hid (LS.rot h1)
        have HU5 := Lib.hid (HU4.out.trans hu)
        have HR5 := Lib.hid (HR.out.doOp o)
        clear h1 hu HL4 HU4
        generalize (st.doOp o).2 = r at *
        generalize (st.doOp o).1 = st2 at *
        go_wp2
        exact ⟨⟨q - 1, st2, i', p + 1, by omega, by go_num, HL5.out, HU5.out, HR5.out, by omega, by omega, by omega⟩, by simp [intOf]; omega⟩
    · have hq0 : q = 0 := by omega
      subst hq0
      go_wp2
      go_ret
      exact ⟨d, st, j, rfl, HR.out.mono (by omega), hj1, by omega, LS.rot HL.out, HU.out⟩
end Go.Proofs.Ytjcjgeneehhgbaa.Dev
