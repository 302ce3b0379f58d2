/-
  DeviceFirst, walked: the law's function returns true and writes nothing elder.
-/
import Derived.Test.YtjcjgeneehhgbaaDevR
import Derived.Test.YtjcjgeneehhgbaaLTorn
namespace Go.Proofs.Ytjcjgeneehhgbaa.Dev
open Go.RowKit Go.Proofs
set_option linter.unusedVariables false
set_option linter.unusedSectionVars false
set_option linter.unusedSimpArgs false
variable [Bs]

theorem perform_cases {d : DS} (h : d.fuse = 0) (o : Op) : (d.perform o).2 = 0 ∧ ∃ x, (d.perform o).1.pend = d.pend ++ [x] := by
  rw [perform_zero h]; exact ⟨rfl, o, rfl⟩
theorem doOp_cases {d : DS} (h : d.fuse = 0) (o : Op) : ((d.doOp o).2 = 0 ∧ ∃ x, (d.doOp o).1.pend = d.pend ++ [x]) ∨ ((d.doOp o).2 ≠ 0 ∧ (d.doOp o).1 = d) := by
  unfold DS.doOp
  split
  · unfold DS.create
    split
    · split
      · exact .inr ⟨by show (302 : Int) ≠ 0; decide, rfl⟩
      · exact .inl (perform_cases h _)
    · exact .inr ⟨by assumption, rfl⟩
  · split
    · unfold DS.append
      split
      · split
        · exact .inr ⟨by show (302 : Int) ≠ 0; decide, rfl⟩
        · exact .inl (perform_cases h _)
      · exact .inr ⟨by assumption, rfl⟩
    · split
      · unfold DS.rename
        split
        · exact .inl (perform_cases h _)
        · exact .inr ⟨by assumption, rfl⟩
      · unfold DS.delete
        split
        · exact .inl (perform_cases h _)
        · exact .inr ⟨by assumption, rfl⟩
/-- the device and the one that does only the first operations -/
structure Few (st fw : DS) (kp n : Nat) : Prop where
  dur : fw.dur = st.dur
  pend : fw.pend = st.pend.take kp
  n : st.pend.length = n
theorem run_eq {a b : DS} {n m : Nat} (ha : Run a n) (hb : Run b m) (hd : a.dur = b.dur) (hp : a.pend = b.pend) : a = b := by
  have h1 := ha.ok.now
  have h2 := hb.ok.now
  have h3 := ha.fuse
  have h4 := hb.fuse
  have h5 := ha.down
  have h6 := hb.down
  cases a; cases b
  simp only at *
  subst hd hp h3 h4 h5 h6
  rw [h1, h2]
theorem Few.same {st fw : DS} {kp n p q : Nat} (h : Few st fw kp n) (ha : Run st p) (hb : Run fw q) (hn : n < kp) : fw = st :=
  run_eq hb ha h.dur (by rw [h.pend, List.take_of_length_le (by have := h.n; omega)])
theorem Few.ok {st : DS} {kp n p : Nat} {fw : DS} (h : Few st fw kp n) (ha : Run st p) {o : Op} (hr : (st.doOp o).2 = 0) (hn : ¬ n < kp) : Few (st.doOp o).1 fw kp (n + 1) := by
  have hs := doOp_still ha.fuse o
  rcases doOp_cases ha.fuse o with ⟨_, x, hx⟩ | ⟨h1, _⟩
  · refine ⟨h.dur.trans hs.2.2.symm, ?_, ?_⟩
    · rw [hx, h.pend, List.take_append_of_le_length (by have := h.n; omega)]
    · rw [hx, List.length_append, h.n]; rfl
  · exact absurd hr h1
theorem Few.both {st : DS} {kp n p : Nat} (hn0 : st.pend.length = n) (ha : Run st p) {o : Op} (hr : (st.doOp o).2 = 0) (hn : n < kp) : Few (st.doOp o).1 (st.doOp o).1 kp (n + 1) := by
  rcases doOp_cases ha.fuse o with ⟨_, x, hx⟩ | ⟨h1, _⟩
  · refine ⟨rfl, ?_, ?_⟩
    · rw [List.take_of_length_le]
      rw [hx, List.length_append, hn0]
      exact hn
    · rw [hx, List.length_append, hn0]; rfl
  · exact absurd hr h1
theorem Few.lost {st fw : DS} {kp n p q : Nat} (h : Few st fw kp n) (ha : Run st p) (hb : Run fw q) : eqD (st.lose kp (-1)).restart fw = true := by
  have hk : st.kept kp (-1) = st.pend.take kp := by
    have hkk : st.keep kp = min kp st.pend.length := by unfold DS.keep; omega
    unfold DS.kept
    rw [hkk]
    have h1 : st.pend.take (min kp st.pend.length) = st.pend.take kp := by
      by_cases hc : kp ≤ st.pend.length
      · rw [Nat.min_eq_left hc]
      · rw [Nat.min_eq_right (by omega), List.take_length, List.take_of_length_le (by omega)]
    rw [h1]
    cases hg : st.pend[min kp st.pend.length]? with
    | none => exact List.append_nil _
    | some o =>
      have e : ¬ (0 ≤ (kp : Int) ∧ o.writes = true ∧ 0 ≤ (-1 : Int)) := by omega
      simp only [if_neg e, List.append_nil]
  have hr : (st.lose kp (-1)).restart = ⟨apps st.dur (st.kept kp (-1)), apps st.dur (st.kept kp (-1)), [], 0, false⟩ := rfl
  refine eqD_same ?_ ?_
  · rw [hr, hk, hb.ok.now, h.dur, h.pend]
  · rw [hr, hb.down]

set_option maxHeartbeats 4000000 in
set_option maxRecDepth 100000 in
theorem first_walk {w : World} (hB : Bs.n = w.heap.size) {lv : Value} {xs : List Int} (hl : RdI w lv xs) :
    Calls Try.prog 9 #[lv] w fun e w' => e = .returned (.bool true) ∧ Below w.heap.size w w' := by
  have Hl := Lib.hid hl
  obtain ⟨A0, c0, rfl, _⟩ := hl
  have hq : Bs.n ≤ w.heap.size := Nat.le_of_eq hB
  have hT := fun i => stable_tape w w.heap.size xs i
  have hE := stable_emp
  go_enter Try.func9, Try.ntmps9
  go_wp2_with fail
  have h0 := tape_L hB Hl.out
  refine (played_L hE hq h0.1 (by omega) 8 (by omega)).mono ?_
  rintro e w1 ⟨d, st0, i1, rfl, hR, hi1, hi2, h1, -⟩
  have HL1 := Lib.hid h1
  have HR0 := Lib.hid hR
  clear h0 h1 hR
  have sD := fun s => stable_dev d s
  go_wp2_with fail
  refine (known_L ((sD _).star ((hT _).star hE)) hq HL1.out).mono ?_
  rintro e w2 ⟨rfl, h1, -⟩
  have HL2 := Lib.hid h1
  have Hs := Lib.hid HR0.out.sync
  clear h1 HL1
  go_wp2_with fail
  refine (sync_L ((hT _).star hE) HL2.out (st' := st0.sync.1) (r := 0) (by rw [Hs.out.2]) (HR0.out.ok.fuel (by have := HR0.out.pend; omega)) HR0.out.ok.fits).mono ?_
  rintro e w3 ⟨rfl, h1, -⟩
  have HL3 := Lib.hid h1
  have HR := Lib.hid Hs.out.1
  clear h1 HL2 HR0 Hs
  generalize st0.sync.1 = st at *
  clear st0
  go_wp2_with fail
  refine (copy_L ((hT _).star hE) hq HL3.out (by have := HR.out.pend; omega)).mono ?_
  rintro e w4 ⟨few, rfl, h1, -⟩
  have HL4 := Lib.hid (LS.rot3 h1)
  have sF := fun s => stable_dev few s
  clear h1 HL3
  go_wp2_with fail
  refine (next_L ((sF _).star ((sD _).star hE)) hq HL4.out (by omega) 7 (by omega)).mono ?_
  rintro e w5 ⟨rfl, h1, -⟩
  have HL5 := Lib.hid h1
  clear h1 HL4
  have htr := tnext_range xs i1 (show (1 : Int) ≤ 7 by omega)
  obtain ⟨kp, hkp⟩ : ∃ m : Nat, tnext xs i1 7 = m := ⟨(tnext xs i1 7).toNat, by omega⟩
  have hkp6 : kp ≤ 6 := by omega
  rw [hkp]
  clear hkp htr
  go_wp2_with fail
  refine (next_L ((sF _).star ((sD _).star hE)) hq HL5.out (by omega) 9 (by omega)).mono ?_
  rintro e w6 ⟨rfl, h1, -⟩
  have HL6 := Lib.hid (LS.rot3 (LS.rot3 (LS.rot h1)))
  clear h1 HL5
  have htr := tnext_range xs (i1 + 1) (show (1 : Int) ≤ 9 by omega)
  obtain ⟨m, hm⟩ : ∃ m : Nat, tnext xs (i1 + 1) 9 = m := ⟨(tnext xs (i1 + 1) 9).toNat, by omega⟩
  have hm8 : m ≤ 8 := by omega
  rw [hm]
  clear hm htr
  have hp0 := HR.out.pend
  have hp0' : st.pend = [] := List.length_eq_zero_iff.1 (by omega)
  have HF0 : Hid (Few st st kp 0) := Lib.hid ⟨rfl, by rw [hp0']; simp, by rw [hp0']; rfl⟩
  clear hp0 hp0'
  go_wp2
  go_loopw [7, 8] (fun nv k wr => ∃ (q n : Nat) (s fw : DS) (j : Nat), q ≤ 8 ∧ n ≤ 8 ∧ k = .int .i64 q ∧ nv = .int .i64 n ∧ LS w (star (TapeO w w.heap.size xs j) (star (DevO d s) (star (DevO few fw) emp))) wr ∧ Run s n ∧ Run fw n ∧ Few s fw kp n ∧ n + q ≤ 8 ∧ j + 30 * q ≤ 50000) (fun _ k _ => (intOf k).toNat)
  case atStart => exact ⟨m, 0, st, st, _, hm8, by omega, rfl, rfl, HL6.out, HR.out, HR.out, HF0.out, by omega, by omega⟩
  case round =>
    obtain ⟨q, n, s, fw, j, hq8, hn8, rfl, rfl, hL, hRs, hRf, hF, hnq, hj⟩ := hrel
    have HL := Lib.hid hL
    have HRs := Lib.hid hRs
    have HRf := Lib.hid hRf
    have HF := Lib.hid hF
    clear hL hRs hRf hF HL6
    by_cases h0 : 0 < q
    · go_wp2_with fail
      refine (operation_L ((sD _).star ((sF _).star hE)) hq HL.out (by omega)).mono ?_
      rintro e w8 ⟨o, v, i', rfl, hv, ho, hi1, hi2, h1, -⟩
      have HL9 := Lib.hid h1
      have Hv := Lib.hid hv
      have Ho := Lib.hid ho
      obtain ⟨A3, c3, rfl, _⟩ := hv
      clear h1 ho HL
      unfold opV
      go_wp2_with fail
      have hx := LS.alloc ((hT _).star ((sD _).star ((sF _).star hE))) hq HL9.out #[.int .i64 o.kind, .string o.name, .string o.to, .slice A3 o.b.length c3] 51 (by decide)
      have hv8 := hx.2 _ _ Hv.out
      have HL10 := Lib.hid (LS.rot3 hx.1)
      have Hv8 := Lib.hid hv8
      generalize hgx : w8.heap.size = g at *
      clear hx hv8 HL9 hgx
      have sO := stable_blk g #[.int .i64 o.kind, .string o.name, .string o.to, .slice A3 o.b.length c3] 51
      refine (ldo_L (v := .slice A3 o.b.length c3) (sO.star ((hT _).star ((sF _).star hE))) HL10.out (st' := (s.doOp o).1) (r := (s.doOp o).2) rfl HRs.out.ok (by have := HRs.out.pend; omega) Ho.out.l Hv8.out).mono ?_
      rintro e w9 ⟨rfl, h1, hu⟩
      have HL11 := Lib.hid (LS.rot h1)
      have Hv9 := Lib.hid (hu _ _ Hv8.out)
      clear h1 hu HL10 Hv8 Hv
      have hxb := HL11.out.blk
      have x0 : w9.cell? ⟨g, 0, none⟩ = some (.int .i64 o.kind) := (blk_cell hxb 0).trans rfl
      have x1 : w9.cell? ⟨g, 1, none⟩ = some (.string o.name) := (blk_cell hxb 1).trans rfl
      have x2 : w9.cell? ⟨g, 2, none⟩ = some (.string o.to) := (blk_cell hxb 2).trans rfl
      have x3 : w9.cell? ⟨g, 3, none⟩ = some (.slice A3 o.b.length c3) := (blk_cell hxb 3).trans rfl
      clear hxb
      by_cases hr : (s.doOp o).2 = 0
      · rw [hr]
        have HRs2 := Lib.hid (HRs.out.doOp o)
        by_cases hnk : n < kp
        · have hnd : decide ((n : Int) < (kp : Int)) = true := by simpa using hnk
          have hfw : fw = s := HF.out.same HRs.out HRf.out hnk
          subst hfw
          have HF2 := Lib.hid (Few.both HF.out.n HRs.out hr hnk)
          have Hr := Lib.hid hr
          clear hr
          go_wp2_with fail
          clear x0 x1 x2 x3
          refine (ldo_L (v := .slice A3 o.b.length c3) (sO.star ((sD _).star ((hT _).star hE))) (LS.rot4 HL11.out) (st' := (fw.doOp o).1) (r := (fw.doOp o).2) rfl HRs.out.ok (by have := HRs.out.pend; omega) Ho.out.l Hv9.out).mono ?_
          rintro e w10 ⟨rfl, h1, -⟩
          rw [Hr.out]
          have HL12 := Lib.hid (LS.rot3 (LS.rot3 (LS.rot (LS.rot3 (LS.drop (LS.rot h1))))))
          clear h1 HL11
          generalize (fw.doOp o).1 = s2 at *
          go_wp2
          exact ⟨⟨q - 1, n + 1, s2, s2, i', by omega, by omega, by go_num, by go_num, HL12.out, HRs2.out, HRs2.out, HF2.out, by omega, by omega⟩, by simp [intOf]; omega⟩
        · have hnd : decide ((n : Int) < (kp : Int)) = false := by simp; omega
          have hnd2 : kp ≤ n := by omega
          have hnd3 : ¬ ((n : Int) < (kp : Int)) := by omega
          have HF2 := Lib.hid (HF.out.ok HRs.out hr hnk)
          have HL12 := Lib.hid (LS.rot (LS.drop HL11.out))
          have HRf2 := Lib.hid (HRf.out.mono (Nat.le_succ n))
          clear hr HL11
          generalize (s.doOp o).1 = s2 at *
          go_wp2
          exact ⟨⟨q - 1, n + 1, s2, fw, i', by omega, by omega, by go_num, by go_num, HL12.out, HRs2.out, HRf2.out, HF2.out, by omega, by omega⟩, by simp [intOf]; omega⟩
      · have hz : ((s.doOp o).2 == 0) = false := by simpa using hr
        have hs2 : (s.doOp o).1 = s := by
          rcases doOp_cases HRs.out.fuse o with ⟨h, _⟩ | ⟨_, h⟩
          · exact absurd h hr
          · exact h
        have HL12 : Hid (LS w (star (TapeO w w.heap.size xs i') (star (DevO d s) (star (DevO few fw) emp))) w9) := Lib.hid (by
          have h := LS.rot (LS.drop HL11.out)
          rwa [hs2] at h)
        clear HL11 hr hs2
        generalize (s.doOp o).2 = r at *
        go_wp2
        exact ⟨⟨q - 1, n, s, fw, i', by omega, hn8, by go_num, rfl, HL12.out, HRs.out, HRf.out, HF.out, by omega, by omega⟩, by simp [intOf]; omega⟩
    · have hq0 : q = 0 := by omega
      subst hq0
      go_wp2_with fail
      refine (lose_L ((hT _).star ((sF _).star hE)) (LS.rot HL.out) (st' := s.lose kp (-1)) rfl hq (by have := HRs.out.pend; omega) (HRs.out.ok.fits_kept kp (-1))).mono ?_
      rintro e w8 ⟨rfl, h1, -⟩
      have HL9 := Lib.hid h1
      clear h1 HL
      go_wp2_with fail
      refine (restart_L ((hT _).star ((sF _).star hE)) HL9.out (st' := (s.lose kp (-1)).restart) rfl).mono ?_
      rintro e w9 ⟨rfl, h1, -⟩
      have HL10 := Lib.hid (LS.rot (LS.rot3 h1))
      clear h1 HL9
      go_wp2_with fail
      refine (equal_L ((hT _).star hE) HL10.out ((HRs.out.ok.lose kp (-1)).restart) HRf.out.ok ((HRs.out.key.lose kp (-1)).restart) (HF.out.lost HRs.out HRf.out)).mono ?_
      rintro e w10 ⟨rfl, h1, -⟩
      have HL11 := Lib.hid h1
      clear h1 HL10
      go_wp2
      go_ret
      exact ⟨rfl, HL11.out.end hB⟩
end Go.Proofs.Ytjcjgeneehhgbaa.Dev
