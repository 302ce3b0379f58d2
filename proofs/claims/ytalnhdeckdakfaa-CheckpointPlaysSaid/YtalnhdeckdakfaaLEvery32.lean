/-
  CheckpointEvery, walked: the law's function returns true and writes nothing elder.
-/
import Derived.Test.YtalnhdeckdakfaaCkH
import Derived.Test.YtalnhdeckdakfaaCkQ
namespace Go.Proofs.Ytalnhdeckdakfaa.Dev
open Go.RowKit Go.Proofs Co
set_option linter.unusedVariables false
set_option linter.unusedSectionVars false
set_option linter.unusedSimpArgs false
variable [Bs]

theorem vC : vname kC = true := by kernel_rfl
theorem sz0 : kC.size ≤ 9223372036854775807 := leb (by kernel_rfl)
/-- a Save with no fuse -/
theorem save_still {m : Nat} {d : DS} (h : Clean m d) (hm : m < 256) {k : ByteArray} (hk : vname k = true) {c : CP} (hc : At k c d.dur) (ht : c.turn < 4611686018427387904) {pos : Int} (h0 : 0 ≤ pos) (h1 : (c.pos : Int) ≤ pos) (hp : pos ≤ 4611686018427387904) {b : List Int} (hb : b.length ≤ 2097152) (hf : d.fuse = 0) (hbl : BL b) :
    saveD d k pos b = (saved d k ⟨c.turn + 1, pos.toNat, b⟩ 0 0, 0) ∧ Clean (m + 1) (saved d k ⟨c.turn + 1, pos.toNat, b⟩ 0 0) ∧ At k ⟨c.turn + 1, pos.toNat, b⟩ (saved d k ⟨c.turn + 1, pos.toNat, b⟩ 0 0).dur := by
  obtain ⟨how, f, e, hz⟩ := save_clean h hm hk hc ht h0 h1 hp hb
  obtain ⟨rfl, rfl⟩ := hz hf
  exact ⟨e, saved_ok h e hbl rfl, saved_at hc ht (by omega) hb 0⟩
theorem rdb_of_row {w : World} {a : Option Addr} {len cap : Nat} {zs : List Int} (hB : Bs.n = w.heap.size)
    (h : (a = none ∧ len = 0 ∧ cap = 0 ∧ zs = []) ∨ ∃ x, a = some x ∧ len ≤ cap ∧ cap ≤ maxLen ∧ zs.length = cap ∧ (∀ i, i < zs.length → w.cell? (x.add i) = some (.int .u8 (zs.getD i 0))) ∧ ∀ n ∈ zs, (Lit.int .u8 n).wf = true) : ∃ xs, xs.length = len ∧ Rd w (.slice a len cap) xs ∧ BL xs := by
  rcases h with ⟨rfl, rfl, rfl, rfl⟩ | ⟨x, rfl, hl, hm, hz, hc, hw⟩
  · exact ⟨[], rfl, Rd.nil w, fun x hx => by cases hx⟩
  · have hlen : (zs.take len).length = len := by rw [List.length_take]; omega
    refine ⟨zs.take len, hlen, ⟨some x, cap, by rw [hlen], by omega, by simp only [maxLen] at hm; omega, fun i hi => ⟨x, rfl, ?_, .inl ?_⟩⟩, fun y hy => ?_⟩
    · rw [hc i (by omega)]
      simp [List.getD_eq_getElem?_getD, List.getElem?_take, show i < len by omega]
    · have := World.block_lt_of_cell? w _ (hc i (by omega))
      rw [add_block] at this
      omega
    · have := hw y (List.mem_of_mem_take hy)
      have e1 : IntKind.u8.min = 0 := rfl
      have e2 : IntKind.u8.max = 255 := rfl
      simp [Lit.wf, e1, e2] at this
      omega

set_option maxHeartbeats 4000000 in
set_option maxRecDepth 100000 in
theorem every_walk {w : World} (hB : Bs.n = w.heap.size) {va vb : Value} {a b : List Int} (hva : Rd w va a) (hvb : Rd w vb b) (ba : BL a) (bb : BL b) {fz kp tn : Int}
    (hf : -9223372036854775808 ≤ fz ∧ fz ≤ 9223372036854775807) (hkp : -9223372036854775808 ≤ kp ∧ kp ≤ 9223372036854775807) (htn : -9223372036854775808 ≤ tn ∧ tn ≤ 9223372036854775807) :
    Calls Try.prog 6 #[va, vb, .int .i64 fz, .int .i64 kp, .int .i64 tn] w fun e w' => e = .returned (.bool true) ∧ Below w.heap.size w w' := by
  have Hva := Lib.hid hva
  have Hvb := Lib.hid hvb
  have Hf := Lib.hid hf
  have Hkp := Lib.hid hkp
  have Htn := Lib.hid htn
  have Ba := Lib.hid ba
  have Bb := Lib.hid bb
  obtain ⟨A0, c0, rfl, ha1, ha2, _⟩ := hva
  obtain ⟨A1, c1, rfl, hb1, hb2, _⟩ := hvb
  clear hf hkp htn ba bb
  have hq : Bs.n ≤ w.heap.size := Nat.le_of_eq hB
  have hS := fun d st => (stable_dev d st).star stable_emp
  by_cases hla : 200 < a.length
  · have hd : decide ((200 : Int) < (a.length : Int)) = true := by simp; omega
    go_enter Try.func6, Try.ntmps6
    go_wp2
    go_ret
    exact ⟨rfl, Below.refl _ _⟩
  by_cases hlb : 200 < b.length
  · have hd : decide ((200 : Int) < (a.length : Int)) = false := by simp; omega
    have hd2 : decide ((200 : Int) < (b.length : Int)) = true := by simp; omega
    go_enter Try.func6, Try.ntmps6
    go_wp2
    go_ret
    exact ⟨rfl, Below.refl _ _⟩
  have hd : decide ((200 : Int) < (a.length : Int)) = false := by simp; omega
  have hd2 : decide ((200 : Int) < (b.length : Int)) = false := by simp; omega
  obtain ⟨s1, C1, A1'⟩ := save_still Clean.new (by omega) vC (At.new kC) (by show 0 < 4611686018427387904; decide) (pos := 1) (by decide) (by decide) (by decide) (b := a) (by omega) rfl Ba.out
  have Hs1 := Lib.hid s1
  have HC1 := Lib.hid C1
  have HA1 := Lib.hid A1'
  clear s1 C1 A1'
  generalize hst1 : saved DS.new kC ⟨CP.zero.turn + 1, (1 : Int).toNat, a⟩ 0 0 = st1 at *
  clear hst1
  have hal : a.length ≤ 200 := by omega
  have hbl : b.length ≤ 200 := by omega
  clear hla hlb
  go_enter Try.func6, Try.ntmps6
  go_wp2_with fail
  refine (new_L stable_emp hq (LS.start w hB)).mono ?_
  rintro e w1 ⟨d, rfl, h1, hu1⟩
  have HL1 := Lib.hid h1
  have HU1 := Lib.hid hu1
  clear h1 hu1
  go_wp2_with fail
  refine (known32_L (hS _ _) hq HL1.out).mono ?_
  rintro e w2 ⟨rfl, h1, hu⟩
  have HL2 := Lib.hid h1
  have HU2 := Lib.hid (HU1.out.trans hu)
  clear h1 hu HL1 HU1
  go_wp2_with fail
  refine (save_L stable_emp hq HL2.out Hs1.out DS.ok_new (leb (by kernel_rfl)) BOk.new sz0 (by decide) (HU2.out _ _ Hva.out) (by omega)).mono ?_
  rintro e w3 ⟨rfl, h1, hu⟩
  have HL3 := Lib.hid h1
  have HU3 := Lib.hid (HU2.out.trans hu)
  clear h1 hu HL2 HU2
  go_wp2_with fail
  refine (fold_calls w3 Hf.out (by omega)).mono ?_
  rintro e _ ⟨rfl, rfl⟩
  have hr0 := fold_range fz (n := 8) (by omega)
  generalize fold fz 8 = q at *
  go_wp2_with fail
  have HC2 := Lib.hid (HC1.out.fuse (n := 1 + q) (by omega))
  have HA2 : Hid (At kC ⟨CP.zero.turn + 1, (1 : Int).toNat, a⟩ (st1.setFuse (1 + q)).dur) := Lib.hid HA1.out
  refine (fuse_L stable_emp HL3.out (n := 1 + q) (st' := st1.setFuse (1 + q)) rfl).mono ?_
  rintro e w4 ⟨rfl, h1, hu⟩
  have HL4 := Lib.hid h1
  have HU4 := Lib.hid (HU3.out.trans hu)
  clear h1 hu HL3 HU3
  generalize st1.setFuse (1 + q) = st2 at *
  obtain ⟨how, f2, s2, _⟩ := save_clean HC2.out (by omega) vC HA2.out (by show 1 < 4611686018427387904; decide) (pos := 2) (by decide) (by show ((1 : Nat) : Int) ≤ 2; decide) (by decide) (b := b) (by omega)
  have lost := fun keep torn => saved_lost HC2.out HA2.out (by show 1 < 4611686018427387904; decide) (by decide) (by omega) Bb.out s2 keep torn
  have Hs2 := Lib.hid s2
  have Lost := Lib.hid lost
  have HOk := Lib.hid (HC2.out.ok.save kC 2 b)
  have HBk := Lib.hid (HC2.out.b.save kC 2 Bb.out)
  rw [s2] at HOk HBk
  have hpl : (saved st2 kC ⟨CP.zero.turn + 1 + 1, (2 : Int).toNat, b⟩ how f2).pend.length ≤ 1 := saved_pend _ _ _ _ _
  clear s2 lost
  obtain ⟨er, her⟩ : ∃ er : Int, er = if how = 0 then 0 else 303 := ⟨_, rfl⟩
  rw [← her] at Hs2
  have Her := Lib.hid her
  clear her
  go_wp2_with fail
  refine (save_L stable_emp hq HL4.out Hs2.out HC2.out.ok (by rw [HC2.out.pend]; exact leb (by kernel_rfl)) HC2.out.b sz0 (by decide) (HU4.out _ _ Hvb.out) (by omega)).mono ?_
  rintro e w5 ⟨rfl, h1, hu⟩
  have HL5 := Lib.hid h1
  have HU5 := Lib.hid (HU4.out.trans hu)
  clear h1 hu HL4 HU4
  generalize saved st2 kC ⟨CP.zero.turn + 1 + 1, (2 : Int).toNat, b⟩ how f2 = st3 at *
  go_wp2_with fail
  refine (fold_calls w5 Hkp.out (by omega)).mono ?_
  rintro e _ ⟨rfl, rfl⟩
  have hr1 := fold_range kp (n := 6) (by omega)
  generalize fold kp 6 = kk at *
  go_wp2_with fail
  refine (fold_calls w5 Htn.out (by omega)).mono ?_
  rintro e _ ⟨rfl, rfl⟩
  have hr2 := fold_range tn (n := 60) (by omega)
  generalize fold tn 60 = tt at *
  go_wp2_with fail
  refine (lose_L stable_emp HL5.out (st' := st3.lose kk (tt - 1)) rfl hq (by omega) (HOk.out.fits_kept kk (tt - 1))).mono ?_
  rintro e w6 ⟨rfl, h1, hu⟩
  have HL6 := Lib.hid h1
  have HU6 := Lib.hid (HU5.out.trans hu)
  clear h1 hu HL5 HU5
  go_wp2_with fail
  refine (restart_L stable_emp HL6.out (st' := (st3.lose kk (tt - 1)).restart) rfl).mono ?_
  rintro e w7 ⟨rfl, h1, hu⟩
  have HL7 := Lib.hid h1
  have HU7 := Lib.hid (HU6.out.trans hu)
  clear h1 hu HL6 HU6
  obtain ⟨C3, c', A3, hc'⟩ := Lost.out kk (tt - 1)
  have HC3 := Lib.hid C3
  have HA3 := Lib.hid A3
  clear C3 A3 Lost
  generalize (st3.lose kk (tt - 1)).restart = st4 at *
  have hload := load_clean HC3.out vC HA3.out
  go_wp2_with fail
  refine (cpLoad_L stable_emp hq HL7.out HC3.out.ok HC3.out.b sz0).mono ?_
  rw [hload]
  rcases hc' with rfl | ⟨hw, rfl⟩
  · rw [if_neg (by show ¬ (2 : Nat) = 0; decide)]
    rintro e w8 ⟨v, rfl, hv, h1, hu⟩
    have HL8 := Lib.hid h1
    have t1 := run_string hv
    have t2 := run_string (hu _ _ (HU7.out _ _ Hva.out))
    have t3 := run_string (hu _ _ (HU7.out _ _ Hvb.out))
    clear h1 hu HL7 HU7 hv hload
    have her := Her.out
    by_cases h0 : how = 0
    · rw [if_pos h0] at her
      subst her
      go_wp2
      go_ret
      exact ⟨rfl, HL8.out.end hB⟩
    · rw [if_neg h0] at her
      subst her
      go_wp2
      go_ret
      exact ⟨rfl, HL8.out.end hB⟩
  · rw [if_neg (by show ¬ (1 : Nat) = 0; decide)]
    rintro e w8 ⟨v, rfl, hv, h1, hu⟩
    have HL8 := Lib.hid h1
    have t1 := run_string hv
    have t2 := run_string (hu _ _ (HU7.out _ _ Hva.out))
    have t3 := run_string (hu _ _ (HU7.out _ _ Hvb.out))
    clear h1 hu HL7 HU7 hv hload
    have her := Her.out
    rw [if_neg hw] at her
    subst her
    go_wp2
    go_ret
    exact ⟨rfl, HL8.out.end hB⟩
end Go.Proofs.Ytalnhdeckdakfaa.Dev
