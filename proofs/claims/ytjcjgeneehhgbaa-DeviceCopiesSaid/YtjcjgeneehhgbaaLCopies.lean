/-
  DeviceCopies, walked: the law's function returns true and writes nothing elder.
-/
import Derived.Test.YtjcjgeneehhgbaaDevR
import Derived.Test.YtjcjgeneehhgbaaLTorn
namespace Go.Proofs.Ytjcjgeneehhgbaa.Dev
open Go.RowKit Go.Proofs
set_option linter.unusedVariables false
set_option linter.unusedSectionVars false
set_option linter.unusedSimpArgs false
variable [Bs]

set_option maxHeartbeats 4000000 in
set_option maxRecDepth 100000 in
theorem copies_walk {w : World} (hB : Bs.n = w.heap.size) {lv : Value} {xs : List Int} (hl : RdI w lv xs) :
    Calls Try.prog 10 #[lv] w fun e w' => e = .returned (.bool true) ∧ Below w.heap.size w w' := by
  have Hl := Lib.hid hl
  obtain ⟨A0, c0, rfl, _⟩ := hl
  have hq : Bs.n ≤ w.heap.size := Nat.le_of_eq hB
  have hT := fun i => stable_tape w w.heap.size xs i
  have hE := stable_emp
  go_enter Try.func10, Try.ntmps10
  go_wp2_with fail
  have h0 := tape_L hB Hl.out
  refine (played_L hE hq h0.1 (by omega) 12 (by omega)).mono ?_
  rintro e w1 ⟨d, st, i1, rfl, hR, hi1, hi2, h1, -⟩
  have HL1 := Lib.hid h1
  have HR := Lib.hid hR
  clear h0 h1 hR
  have sD := stable_dev d st
  go_wp2_with fail
  refine (known_L (sD.star ((hT _).star hE)) hq HL1.out).mono ?_
  rintro e w2 ⟨rfl, h1, -⟩
  have HL2 := Lib.hid h1
  clear h1 HL1
  go_wp2_with fail
  refine (copy_L ((hT _).star hE) hq HL2.out (by have := HR.out.pend; omega)).mono ?_
  rintro e w3 ⟨c, rfl, h1, -⟩
  have HL3 := Lib.hid (LS.rot h1)
  clear h1 HL2
  have sC := fun s => stable_dev c s
  go_wp2_with fail
  refine (copy_L ((sC _).star ((hT _).star hE)) hq HL3.out (by have := HR.out.pend; omega)).mono ?_
  rintro e w4 ⟨was, rfl, h1, -⟩
  have HL4 := Lib.hid (LS.rot (LS.rot3 (LS.rot3 h1)))
  clear h1 HL3
  have sW := fun s => stable_dev was s
  have sDd := fun s => stable_dev d s
  have hself := eqD_same (a := st) (b := st) rfl rfl
  have Hself := Lib.hid hself
  clear hself
  go_wp2_with fail
  refine (equal_L ((sW _).star ((hT _).star hE)) HL4.out HR.out.ok HR.out.ok HR.out.key Hself.out).mono ?_
  rintro e w5 ⟨rfl, h1, -⟩
  have HL5 := Lib.hid h1
  clear h1 HL4
  go_wp2_with fail
  refine (pending_L HL5.out rfl).mono ?_
  rintro e _ ⟨rfl, rfl⟩
  go_wp2_with fail
  refine (pending_L (LS.rot HL5.out) rfl).mono ?_
  rintro e _ ⟨rfl, rfl⟩
  go_wp2_with fail
  refine (loss_L ((sC _).star ((sDd _).star ((sW _).star hE))) hq (LS.rot4 HL5.out) (by omega)).mono ?_
  rintro e w6 ⟨rfl, h1, -⟩
  have HL6 := Lib.hid h1
  clear h1 HL5
  generalize tnext xs i1 8 - 1 = kp at *
  generalize tnext xs (i1 + 1) 8 - 1 = tn at *
  go_wp2_with fail
  have hx := LS.alloc ((hT _).star ((sC _).star ((sDd _).star ((sW _).star hE)))) hq HL6.out #[.int .i64 kp, .int .i64 tn] 32 (by decide)
  refine (next_L ((stable_blk _ _ _).star ((sC _).star ((sDd _).star ((sW _).star hE)))) hq (LS.rot hx.1) (by omega) 6 (by omega)).mono ?_
  rintro e w7 ⟨rfl, h1, -⟩
  have HL7 := Lib.hid h1
  generalize hgx : w6.heap.size = g at *
  clear h1 HL6 hx hgx
  have sX := stable_blk g #[.int .i64 kp, .int .i64 tn] 32
  obtain ⟨n, hny⟩ : ∃ n : Nat, tnext xs (i1 + 2) 6 = n := ⟨(tnext xs (i1 + 2) 6).toNat, by have := tnext_range xs (i1 + 2) (show (1 : Int) ≤ 6 by omega); omega⟩
  have hn9 : n ≤ 6 := by have := tnext_range xs (i1 + 2) (show (1 : Int) ≤ 6 by omega); omega
  rw [hny]
  clear hny
  have HL8 := Lib.hid (LS.rot (LS.rot3 HL7.out))
  clear HL7
  go_wp2
  go_loopw [8] (fun k wr => ∃ (q : Nat) (s : DS) (j p : Nat), q ≤ 6 ∧ k = .int .i64 q ∧ LS w (star (TapeO w w.heap.size xs j) (star (DevO c s) (star (BlkO g #[.int .i64 kp, .int .i64 tn] 32) (star (DevO d st) (star (DevO was st) emp))))) wr ∧ Run s p ∧ p + q ≤ 50 ∧ j + 30 * q ≤ 50000) (fun k _ => (intOf k).toNat)
  case atStart => exact ⟨n, st, _, 12, hn9, rfl, HL8.out, HR.out, by omega, by omega⟩
  case round =>
    obtain ⟨q, s, j, p, hq6, rfl, hL, hRs, hp, hj⟩ := hrel
    have HL := Lib.hid hL
    have HRs := Lib.hid hRs
    clear hL hRs HL8
    by_cases h0 : 0 < q
    · go_wp2_with fail
      refine (operation_L ((sC _).star (sX.star ((sDd _).star ((sW _).star hE)))) hq HL.out (by omega)).mono ?_
      rintro e w8 ⟨o, v, i', rfl, hv, ho, hi1, hi2, h1, -⟩
      have HL9 := Lib.hid (LS.rot h1)
      have Hv := Lib.hid hv
      have Ho := Lib.hid ho
      clear h1 hv ho HL
      go_wp2_with fail
      refine (ldo_L ((hT _).star (sX.star ((sDd _).star ((sW _).star hE)))) HL9.out (st' := (s.doOp o).1) (r := (s.doOp o).2) rfl HRs.out.ok (by have := HRs.out.pend; omega) Ho.out.l Hv.out).mono ?_
      rintro e w9 ⟨rfl, h1, -⟩
      have HL10 := Lib.hid (LS.rot h1)
      have HR10 := Lib.hid (HRs.out.doOp o)
      clear h1 HL9
      generalize (s.doOp o).2 = r at *
      generalize (s.doOp o).1 = s2 at *
      go_wp2
      exact ⟨⟨q - 1, s2, i', p + 1, by omega, by go_num, HL10.out, HR10.out, by omega, by omega⟩, by simp [intOf]; omega⟩
    · have hq0 : q = 0 := by omega
      subst hq0
      have hxb := (LS.rot3 HL.out).blk
      have x0 : wr.cell? ⟨g, 0, none⟩ = some (.int .i64 kp) := (blk_cell hxb 0).trans rfl
      have x1 : wr.cell? ⟨g, 1, none⟩ = some (.int .i64 tn) := (blk_cell hxb 1).trans rfl
      clear hxb h0
      go_wp2_with fail
      clear x0 x1
      refine (lose_L ((hT _).star (sX.star ((sDd _).star ((sW _).star hE)))) (LS.rot HL.out) (st' := s.lose kp tn) rfl hq (by have := HRs.out.pend; omega) (HRs.out.ok.fits_kept kp tn)).mono ?_
      rintro e w8 ⟨rfl, h1, -⟩
      have HL9 := Lib.hid (LS.rot4 h1)
      clear h1 HL
      generalize s.lose kp tn = sl at *
      go_wp2_with fail
      refine (down_L HL9.out HR.out.down).mono ?_
      rintro e _ ⟨rfl, rfl⟩
      have HL10 := Lib.hid (LS.rot (LS.rot5 HL9.out))
      clear HL9
      go_wp2_with fail
      refine (equal_L ((sC _).star ((hT _).star (sX.star hE))) HL10.out HR.out.ok HR.out.ok HR.out.key Hself.out).mono ?_
      rintro e w9 ⟨rfl, h1, -⟩
      have HL11 := Lib.hid h1
      clear h1 HL10
      go_wp2_with fail
      refine (pending_L HL11.out rfl).mono ?_
      rintro e _ ⟨rfl, rfl⟩
      go_wp2_with fail
      refine (pending_L (LS.rot HL11.out) rfl).mono ?_
      rintro e _ ⟨rfl, rfl⟩
      have hxb := (LS.rot5 HL11.out).blk
      have x0 := (blk_cell hxb 0).trans (show _ = some (Value.int .i64 kp) from rfl)
      have x1 := (blk_cell hxb 1).trans (show _ = some (Value.int .i64 tn) from rfl)
      clear hxb
      go_wp2_with fail
      clear x0 x1
      refine (lose_L ((sW _).star ((sC _).star ((hT _).star (sX.star hE)))) HL11.out (st' := st.lose kp tn) rfl hq (by have := HR.out.pend; omega) (HR.out.ok.fits_kept kp tn)).mono ?_
      rintro e w10 ⟨rfl, h1, -⟩
      have HL12 := Lib.hid (LS.rot h1)
      clear h1 HL11
      have hxb := (LS.rot5 HL12.out).blk
      have x0 := (blk_cell hxb 0).trans (show _ = some (Value.int .i64 kp) from rfl)
      have x1 := (blk_cell hxb 1).trans (show _ = some (Value.int .i64 tn) from rfl)
      clear hxb
      go_wp2_with fail
      clear x0 x1
      refine (lose_L ((sDd _).star ((sC _).star ((hT _).star (sX.star hE)))) HL12.out (st' := st.lose kp tn) rfl hq (by have := HR.out.pend; omega) (HR.out.ok.fits_kept kp tn)).mono ?_
      rintro e w11 ⟨rfl, h1, -⟩
      have HL13 := Lib.hid (LS.rot h1)
      have HO := Lib.hid ((HR.out.ok.lose kp tn).restart)
      have HK := Lib.hid ((HR.out.key.lose kp tn).restart)
      clear h1 HL12
      go_wp2_with fail
      refine (restart_L ((sW _).star ((sC _).star ((hT _).star (sX.star hE)))) HL13.out (st' := (st.lose kp tn).restart) rfl).mono ?_
      rintro e w12 ⟨rfl, h1, -⟩
      have HL14 := Lib.hid (LS.rot h1)
      clear h1 HL13
      go_wp2_with fail
      refine (restart_L ((sDd _).star ((sC _).star ((hT _).star (sX.star hE)))) HL14.out (st' := (st.lose kp tn).restart) rfl).mono ?_
      rintro e w13 ⟨rfl, h1, -⟩
      have HL15 := Lib.hid (LS.rot h1)
      clear h1 HL14
      have Hse := Lib.hid (eqD_same (a := (st.lose kp tn).restart) (b := (st.lose kp tn).restart) rfl rfl)
      go_wp2_with fail
      refine (equal_L ((sC _).star ((hT _).star (sX.star hE))) HL15.out HO.out HO.out HK.out Hse.out).mono ?_
      rintro e w14 ⟨rfl, h1, -⟩
      have HL16 := Lib.hid h1
      clear h1 HL15
      go_wp2
      go_ret
      exact ⟨rfl, HL16.out.end hB⟩
end Go.Proofs.Ytjcjgeneehhgbaa.Dev
