/-
  The device: Create, Append, Rename, Delete, Sync.
-/
import Derived.Test.YtalnhdeckdakfaaDevG
namespace Go.Proofs.Ytalnhdeckdakfaa.Dev
open Go.RowKit Go.Proofs
set_option linter.unusedVariables false
set_option linter.unusedSectionVars false
set_option linter.unusedSimpArgs false
variable [Bs]

theorem check1 {w : World} {d a : Nat} {st : DS} {S : Nat → Prop} (h : DevI w d st S) (needed : Bool) {k : ByteArray} (hc : w.cell? ⟨a, 0, none⟩ = some (.string k)) (hs : k.size ≤ 9223372036854775807) :
    Calls Try.prog 57 #[.pointer (some ⟨d, 0, none⟩), .bool needed, .slice (some ⟨a, 0, none⟩) 1 1] w fun e w' => e = .returned (.int .i64 (chk st.down needed st.now [k])) ∧ Below w.heap.size w w' := by
  obtain ⟨rd, rn, pv, cells, h⟩ := h
  have hD := h.blk
  generalize hdn : st.down = down at *
  cases down with
  | true =>
    refine (check_down hD needed _).mono ?_
    rintro e w' ⟨rfl, rfl⟩
    exact ⟨rfl, Below.refl _ _⟩
  | false =>
    obtain ⟨_, es, clock, hM, hF, _⟩ := h.now
    exact check_up hD hM hF needed [k] (fun i hi => by
      match i, hi with
      | 0, _ => exact hc) (fun i hi => by
      match i, hi with
      | 0, _ => exact hs) (by simp) (by simp)
theorem check2 {w : World} {d a : Nat} {st : DS} {S : Nat → Prop} (h : DevI w d st S) (needed : Bool) {k l : ByteArray} (hc : w.cell? ⟨a, 0, none⟩ = some (.string k)) (hc1 : w.cell? ⟨a, 1, none⟩ = some (.string l)) (hs : k.size ≤ 9223372036854775807) (hs1 : l.size ≤ 9223372036854775807) :
    Calls Try.prog 57 #[.pointer (some ⟨d, 0, none⟩), .bool needed, .slice (some ⟨a, 0, none⟩) 2 2] w fun e w' => e = .returned (.int .i64 (chk st.down needed st.now [k, l])) ∧ Below w.heap.size w w' := by
  obtain ⟨rd, rn, pv, cells, h⟩ := h
  have hD := h.blk
  generalize hdn : st.down = down at *
  cases down with
  | true =>
    refine (check_down hD needed _).mono ?_
    rintro e w' ⟨rfl, rfl⟩
    exact ⟨rfl, Below.refl _ _⟩
  | false =>
    obtain ⟨_, es, clock, hM, hF, _⟩ := h.now
    exact check_up hD hM hF needed [k, l] (fun i hi => by
      match i, hi with
      | 0, _ => exact hc
      | 1, _ => exact hc1) (fun i hi => by
      match i, hi with
      | 0, _ => exact hs
      | 1, _ => exact hs1) (by simp) (by simp)

structure Fuel (st : DS) : Prop where
  lo : 0 ≤ st.fuse
  hi : st.fuse ≤ 1000000
  pend : st.pend.length ≤ 100000


set_option maxHeartbeats 1000000 in
set_option maxRecDepth 100000 in
theorem rename_dev {w : World} {d : Nat} {st : DS} {S : Nat → Prop} (h : DevI w d st S) (hf : Fuel st) (k l : ByteArray) (hk : k.size ≤ 9223372036854775807) (hk2 : l.size ≤ 9223372036854775807) (hl : ((st.now.get k).getD []).length ≤ 4194304) :
    Calls Try.prog 74 #[.pointer (some ⟨d, 0, none⟩), .string k, .string l] w fun e w' => e = .returned (.int .i64 (st.rename k l).2) ∧ Res w w' d (st.rename k l).1 S := by
  have H := Lib.hid h
  have Hf := Lib.hid hf
  have Hl := Lib.hid hl
  clear h hf hl
  have hB0 : Below w.heap.size w (w.alloc (.cells #[Value.string k, Value.string l] 9)) := (Below.refl _ _).alloc (Nat.le_refl _) _
  have HB0 := Lib.hid hB0
  clear hB0
  by_cases h0 : chk st.down true st.now [k, l] = 0
  · have H0 := Lib.hid h0
    have hr : st.rename k l = st.perform ⟨3, k, l, []⟩ := by simp only [DS.rename, h0, if_true]
    rw [hr]
    clear h0 hr
    generalize hp : st.perform ⟨3, k, l, []⟩ = r at *
    have Hp := Lib.hid hp
    clear hp
    go_enter Try.func74, Try.ntmps74
    go_wp2_with fail
    refine (check2 (H.out.below HB0.out) true (by go_simp) (by go_simp) hk hk2).mono ?_
    rw [H0.out]
    rintro e w1 ⟨rfl, hb⟩
    have HB1 := Lib.hid (below_trans HB0.out hb)
    clear hb HB0
    go_wp2_with fail
    refine (perform_calls (H.out.below HB1.out) Hf.out.lo Hf.out.hi ⟨3, k, l, []⟩ (.inr (.inr (.inl rfl))) (Rd.nil _) (by have := Hl.out; simp; omega) Hf.out.pend).mono ?_
    rw [Hp.out]
    rintro e w2 ⟨rfl, hR⟩
    have HR := Lib.hid (hR.pre HB1.out)
    clear hR
    go_wp2
    go_ret
    exact ⟨rfl, HR.out⟩
  · have hr : st.rename k l = (st, chk st.down true st.now [k, l]) := by simp only [DS.rename, h0, if_false]
    rw [hr]
    have hne : (chk st.down true st.now [k, l] == 0) = false := by simpa using h0
    clear h0 hr
    generalize hc : chk st.down true st.now [k, l] = c at *
    have Hc := Lib.hid hc
    clear hc
    go_enter Try.func74, Try.ntmps74
    go_wp2_with fail
    refine (check2 (H.out.below HB0.out) true (by go_simp) (by go_simp) hk hk2).mono ?_
    rw [Hc.out]
    rintro e w1 ⟨rfl, hb⟩
    have HB1 := Lib.hid (below_trans HB0.out hb)
    clear hb HB0
    go_wp2
    go_ret
    exact ⟨rfl, Res.stay H.out HB1.out⟩

set_option maxHeartbeats 1000000 in
set_option maxRecDepth 100000 in
theorem append_dev {w : World} {d : Nat} {st : DS} {S : Nat → Prop} (h : DevI w d st S) (hf : Fuel st) (k : ByteArray) {v : Value} {b : List Int} (hv : Rd w v b) (hlb : b.length ≤ 140737488355328) (hk : k.size ≤ 9223372036854775807) (hl : ((st.now.get k).getD []).length ≤ 4194304) :
    Calls Try.prog 64 #[.pointer (some ⟨d, 0, none⟩), .string k, v] w fun e w' => e = .returned (.int .i64 (st.append k b).2) ∧ Res w w' d (st.append k b).1 S := by
  have H := Lib.hid h
  have Hf := Lib.hid hf
  have Hl := Lib.hid hl
  clear h hf hl
  have hB0 : Below w.heap.size w (w.alloc (.cells #[Value.string k] 9)) := (Below.refl _ _).alloc (Nat.le_refl _) _
  have HB0 := Lib.hid hB0
  clear hB0
  by_cases h0 : chk st.down true st.now [k] = 0
  · have H0 := Lib.hid h0
    have Hv := Lib.hid hv
    have Hlb := Lib.hid hlb
    obtain ⟨A, c, rfl, _⟩ := hv
    clear h0 hlb
    have hll := Hl.out
    have hlb2 := Hlb.out
    have Hll := Lib.hid hll
    by_cases hbig : 4194304 < ((st.now.get k).getD []).length + b.length
    · have hr : st.append k b = (st, 302) := by simp only [DS.append, H0.out, if_true, hbig]
      rw [hr]
      clear hr
      generalize hys : (st.now.get k).getD [] = ys at *
      have Hys := Lib.hid hys
      have hd : decide ((4194304 : Int) < (ys.length : Int) + (b.length : Int)) = true := by simp; omega
      clear hys hbig Hll
      go_enter Try.func64, Try.ntmps64
      go_wp2_with fail
      refine (check1 (H.out.below HB0.out) true (by go_simp) hk).mono ?_
      rw [H0.out]
      rintro e w1 ⟨rfl, hb⟩
      have HB1 := Lib.hid (below_trans HB0.out hb)
      clear hb HB0
      obtain ⟨rd, rn, pv, cells, hW⟩ := H.out.below HB1.out
      obtain ⟨v0, hv0, hlk0⟩ := lookupI hW.now k
      rw [Hys.out] at hv0
      obtain ⟨A0, c0, rfl, _⟩ := hv0
      have hlk := (hlk0 w1 rfl).2
      have cc1 := hW.blk.c1
      clear hlk0 hW
      go_wp2
      go_ret
      exact ⟨rfl, Res.stay H.out HB1.out⟩
    · have hr : st.append k b = st.perform ⟨2, k, ⟨#[]⟩, b⟩ := by simp only [DS.append, H0.out, if_true, hbig, if_false]
      rw [hr]
      clear hr
      generalize hp : st.perform ⟨2, k, ⟨#[]⟩, b⟩ = r at *
      have Hp := Lib.hid hp
      have hlp : ((st.now.get k).getD []).length + b.length ≤ 140737488355328 := by omega
      have Hlp := Lib.hid hlp
      generalize hys : (st.now.get k).getD [] = ys at hll hbig
      have Hys := Lib.hid hys
      have hd : decide ((4194304 : Int) < (ys.length : Int) + (b.length : Int)) = false := by simp; omega
      clear hys hbig hp hlp Hll
      go_enter Try.func64, Try.ntmps64
      go_wp2_with fail
      refine (check1 (H.out.below HB0.out) true (by go_simp) hk).mono ?_
      rw [H0.out]
      rintro e w1 ⟨rfl, hb⟩
      have HB1 := Lib.hid (below_trans HB0.out hb)
      clear hb HB0
      obtain ⟨rd, rn, pv, cells, hW⟩ := H.out.below HB1.out
      obtain ⟨v0, hv0, hlk0⟩ := lookupI hW.now k
      rw [Hys.out] at hv0
      obtain ⟨A0, c0, rfl, _⟩ := hv0
      have hlk := (hlk0 w1 rfl).2
      have cc1 := hW.blk.c1
      clear hlk0 hW
      go_wp2_with fail
      refine (cloneB_calls (U8.below HB1.out _ _ Hv.out) (by omega)).mono ?_
      rintro e w2 ⟨v2, rfl, ho, hb⟩
      have HB2 := Lib.hid (below_trans HB1.out hb)
      have Hv2 := Lib.hid (Rd.own ho)
      clear ho hb HB1 hlk cc1
      obtain ⟨A2, c2, rfl, _⟩ := Hv2.out
      go_wp2_with fail
      refine (perform_calls (H.out.below HB2.out) Hf.out.lo Hf.out.hi ⟨2, k, ⟨#[]⟩, b⟩ (.inr (.inl rfl)) Hv2.out Hlp.out Hf.out.pend).mono ?_
      rw [Hp.out]
      rintro e w3 ⟨rfl, hR⟩
      have HR := Lib.hid (hR.pre HB2.out)
      clear hR
      go_wp2
      go_ret
      exact ⟨rfl, HR.out⟩
  · have hr : st.append k b = (st, chk st.down true st.now [k]) := by simp only [DS.append, h0, if_false]
    rw [hr]
    have hne : (chk st.down true st.now [k] == 0) = false := by simpa using h0
    clear h0 hr
    generalize hc : chk st.down true st.now [k] = c at *
    have Hc := Lib.hid hc
    clear hc
    go_enter Try.func64, Try.ntmps64
    go_wp2_with fail
    refine (check1 (H.out.below HB0.out) true (by go_simp) hk).mono ?_
    rw [Hc.out]
    rintro e w1 ⟨rfl, hb⟩
    have HB1 := Lib.hid (below_trans HB0.out hb)
    clear hb HB0
    go_wp2
    go_ret
    exact ⟨rfl, Res.stay H.out HB1.out⟩
end Go.Proofs.Ytalnhdeckdakfaa.Dev
