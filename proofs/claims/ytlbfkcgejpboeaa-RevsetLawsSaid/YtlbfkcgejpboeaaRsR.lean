/-
  The law RevsetLaws, walked.
-/
import Derived.Test.YtlbfkcgejpboeaaRsQ
namespace Go.Proofs.Ytlbfkcgejpboeaa.Rs
open Go.RowKit Go.Proofs Go.Sort
set_option linter.unusedVariables false
set_option linter.unusedSimpArgs false
set_option linter.unusedSectionVars false

theorem made_or {a b s : List R} (h : Made 0 a b s) (n : Int) : mem s n ↔ mem a n ∨ mem b n := by
  rw [h.2.1]; unfold op3; simp only [if_true, Bool.or_eq_true, memB_iff]
theorem made_and {a b s : List R} (h : Made 1 a b s) (n : Int) : mem s n ↔ mem a n ∧ mem b n := by
  rw [h.2.1]; unfold op3; simp only [Nat.one_ne_zero, if_false, if_true, Bool.and_eq_true, memB_iff]
set_option maxHeartbeats 4000000 in
set_option maxRecDepth 100000 in
theorem laws_big {w : World} {va vb vc : Value} {a b c : List R} (ha : RdR w va a) (hb : RdR w vb b) (hc : RdR w vc c) (hd : (decide (40 < a.length) || (decide (40 < b.length) || decide (40 < c.length))) = true) :
    Calls Try.prog 7 #[va, vb, vc] w fun e w' => e = .returned (.bool true) ∧ RowKit.Below w.heap.size w w' := by
  have Ha := Lib.hid ha
  have Hb := Lib.hid hb
  have Hc := Lib.hid hc
  have Hhd := Lib.hid hd
  obtain ⟨Aa, ca, rfl, _⟩ := ha
  obtain ⟨Ab, cb, rfl, _⟩ := hb
  obtain ⟨Ac, cc, rfl, _⟩ := hc
  clear hd
  go_enter Try.func7, Try.ntmps7
  have HB0 := Lib.hid (RowKit.Below.refl w.heap.size w)
  go_wp2_with fail
  have hb : RowKit.Below w.heap.size w (w.alloc (Obj.cells #[Value.slice Aa a.length ca, Value.slice Ab b.length cb, Value.slice Ac c.length cc] 22)) := (RowKit.Below.refl _ _).alloc (Nat.le_refl _) _
  have k0 : (w.alloc (Obj.cells #[Value.slice Aa a.length ca, Value.slice Ab b.length cb, Value.slice Ac c.length cc] 22)).cell? ⟨w.heap.size, 0, none⟩ = some (Value.slice Aa a.length ca) := by go_simp
  have k1 : (w.alloc (Obj.cells #[Value.slice Aa a.length ca, Value.slice Ab b.length cb, Value.slice Ac c.length cc] 22)).cell? ⟨w.heap.size, 1, none⟩ = some (Value.slice Ab b.length cb) := by go_simp
  have k2 : (w.alloc (Obj.cells #[Value.slice Aa a.length ca, Value.slice Ab b.length cb, Value.slice Ac c.length cc] 22)).cell? ⟨w.heap.size, 2, none⟩ = some (Value.slice Ac c.length cc) := by go_simp
  generalize w.alloc (Obj.cells #[Value.slice Aa a.length ca, Value.slice Ab b.length cb, Value.slice Ac c.length cc] 22) = w1 at *
  have HB1 := Lib.hid (below_trans HB0.out hb)
  clear hb HB0
  go_wp2_with fail
  refine (many3 (Ha.out.below HB1.out) (Hb.out.below HB1.out) (Hc.out.below HB1.out) k0 k1 k2).mono ?_
  rintro e _ ⟨rfl, rfl⟩
  rw [Hhd.out]
  clear k0 k1 k2
  go_wp2_with fail
  refine (awake_calls _).mono ?_
  rintro e w2 ⟨rfl, hb⟩
  have HB2 := Lib.hid (below_trans HB1.out hb)
  clear hb HB1
  go_wp2
  go_ret
  exact ⟨rfl, HB2.out⟩
set_option maxHeartbeats 4000000 in
set_option maxRecDepth 100000 in
theorem laws_no1 {w : World} {va vb vc : Value} {a b c : List R} (ha : RdR w va a) (hb : RdR w vb b) (hc : RdR w vc c) (hd : (decide (40 < a.length) || (decide (40 < b.length) || decide (40 < c.length))) = false) (hsa : ¬ IsSet a) :
    Calls Try.prog 7 #[va, vb, vc] w fun e w' => e = .returned (.bool true) ∧ RowKit.Below w.heap.size w w' := by
  have Ha := Lib.hid ha
  have Hb := Lib.hid hb
  have Hc := Lib.hid hc
  have Hhd := Lib.hid hd
  have Hhsa := Lib.hid hsa
  obtain ⟨Aa, ca, rfl, _⟩ := ha
  obtain ⟨Ab, cb, rfl, _⟩ := hb
  obtain ⟨Ac, cc, rfl, _⟩ := hc
  clear hd hsa
  go_enter Try.func7, Try.ntmps7
  have HB0 := Lib.hid (RowKit.Below.refl w.heap.size w)
  go_wp2_with fail
  have hb : RowKit.Below w.heap.size w (w.alloc (Obj.cells #[Value.slice Aa a.length ca, Value.slice Ab b.length cb, Value.slice Ac c.length cc] 22)) := (RowKit.Below.refl _ _).alloc (Nat.le_refl _) _
  have k0 : (w.alloc (Obj.cells #[Value.slice Aa a.length ca, Value.slice Ab b.length cb, Value.slice Ac c.length cc] 22)).cell? ⟨w.heap.size, 0, none⟩ = some (Value.slice Aa a.length ca) := by go_simp
  have k1 : (w.alloc (Obj.cells #[Value.slice Aa a.length ca, Value.slice Ab b.length cb, Value.slice Ac c.length cc] 22)).cell? ⟨w.heap.size, 1, none⟩ = some (Value.slice Ab b.length cb) := by go_simp
  have k2 : (w.alloc (Obj.cells #[Value.slice Aa a.length ca, Value.slice Ab b.length cb, Value.slice Ac c.length cc] 22)).cell? ⟨w.heap.size, 2, none⟩ = some (Value.slice Ac c.length cc) := by go_simp
  generalize w.alloc (Obj.cells #[Value.slice Aa a.length ca, Value.slice Ab b.length cb, Value.slice Ac c.length cc] 22) = w1 at *
  have HB1 := Lib.hid (below_trans HB0.out hb)
  clear hb HB0
  go_wp2_with fail
  refine (many3 (Ha.out.below HB1.out) (Hb.out.below HB1.out) (Hc.out.below HB1.out) k0 k1 k2).mono ?_
  rintro e _ ⟨rfl, rfl⟩
  rw [Hhd.out]
  clear k0 k1 k2
  go_wp2_with fail
  refine (check_is (Ha.out.below HB1.out) (chkE_no Hhsa.out)).mono ?_
  rintro e w2 ⟨rfl, hb⟩
  have HB2 := Lib.hid (below_trans HB1.out hb)
  clear hb HB1
  go_wp2_with fail
  refine (awake_calls _).mono ?_
  rintro e w3 ⟨rfl, hb⟩
  have HB3 := Lib.hid (below_trans HB2.out hb)
  clear hb HB2
  go_wp2
  go_ret
  exact ⟨rfl, HB3.out⟩
set_option maxHeartbeats 4000000 in
set_option maxRecDepth 100000 in
theorem laws_no2 {w : World} {va vb vc : Value} {a b c : List R} (ha : RdR w va a) (hb : RdR w vb b) (hc : RdR w vc c) (hd : (decide (40 < a.length) || (decide (40 < b.length) || decide (40 < c.length))) = false) (hsa : IsSet a) (hsb : ¬ IsSet b) :
    Calls Try.prog 7 #[va, vb, vc] w fun e w' => e = .returned (.bool true) ∧ RowKit.Below w.heap.size w w' := by
  have Ha := Lib.hid ha
  have Hb := Lib.hid hb
  have Hc := Lib.hid hc
  have Hhd := Lib.hid hd
  have Hhsa := Lib.hid hsa
  have Hhsb := Lib.hid hsb
  obtain ⟨Aa, ca, rfl, _⟩ := ha
  obtain ⟨Ab, cb, rfl, _⟩ := hb
  obtain ⟨Ac, cc, rfl, _⟩ := hc
  clear hd hsa hsb
  go_enter Try.func7, Try.ntmps7
  have HB0 := Lib.hid (RowKit.Below.refl w.heap.size w)
  go_wp2_with fail
  have hb : RowKit.Below w.heap.size w (w.alloc (Obj.cells #[Value.slice Aa a.length ca, Value.slice Ab b.length cb, Value.slice Ac c.length cc] 22)) := (RowKit.Below.refl _ _).alloc (Nat.le_refl _) _
  have k0 : (w.alloc (Obj.cells #[Value.slice Aa a.length ca, Value.slice Ab b.length cb, Value.slice Ac c.length cc] 22)).cell? ⟨w.heap.size, 0, none⟩ = some (Value.slice Aa a.length ca) := by go_simp
  have k1 : (w.alloc (Obj.cells #[Value.slice Aa a.length ca, Value.slice Ab b.length cb, Value.slice Ac c.length cc] 22)).cell? ⟨w.heap.size, 1, none⟩ = some (Value.slice Ab b.length cb) := by go_simp
  have k2 : (w.alloc (Obj.cells #[Value.slice Aa a.length ca, Value.slice Ab b.length cb, Value.slice Ac c.length cc] 22)).cell? ⟨w.heap.size, 2, none⟩ = some (Value.slice Ac c.length cc) := by go_simp
  generalize w.alloc (Obj.cells #[Value.slice Aa a.length ca, Value.slice Ab b.length cb, Value.slice Ac c.length cc] 22) = w1 at *
  have HB1 := Lib.hid (below_trans HB0.out hb)
  clear hb HB0
  go_wp2_with fail
  refine (many3 (Ha.out.below HB1.out) (Hb.out.below HB1.out) (Hc.out.below HB1.out) k0 k1 k2).mono ?_
  rintro e _ ⟨rfl, rfl⟩
  rw [Hhd.out]
  clear k0 k1 k2
  go_wp2_with fail
  refine (check_is (Ha.out.below HB1.out) (chkE_yes Hhsa.out)).mono ?_
  rintro e w2 ⟨rfl, hb⟩
  have HB2 := Lib.hid (below_trans HB1.out hb)
  clear hb HB1
  go_wp2_with fail
  refine (check_is (Hb.out.below HB2.out) (chkE_no Hhsb.out)).mono ?_
  rintro e w3 ⟨rfl, hb⟩
  have HB3 := Lib.hid (below_trans HB2.out hb)
  clear hb HB2
  go_wp2_with fail
  refine (awake_calls _).mono ?_
  rintro e w4 ⟨rfl, hb⟩
  have HB4 := Lib.hid (below_trans HB3.out hb)
  clear hb HB3
  go_wp2
  go_ret
  exact ⟨rfl, HB4.out⟩
set_option maxHeartbeats 4000000 in
set_option maxRecDepth 100000 in
theorem laws_no3 {w : World} {va vb vc : Value} {a b c : List R} (ha : RdR w va a) (hb : RdR w vb b) (hc : RdR w vc c) (hd : (decide (40 < a.length) || (decide (40 < b.length) || decide (40 < c.length))) = false) (hsa : IsSet a) (hsb : IsSet b) (hsc : ¬ IsSet c) :
    Calls Try.prog 7 #[va, vb, vc] w fun e w' => e = .returned (.bool true) ∧ RowKit.Below w.heap.size w w' := by
  have Ha := Lib.hid ha
  have Hb := Lib.hid hb
  have Hc := Lib.hid hc
  have Hhd := Lib.hid hd
  have Hhsa := Lib.hid hsa
  have Hhsb := Lib.hid hsb
  have Hhsc := Lib.hid hsc
  obtain ⟨Aa, ca, rfl, _⟩ := ha
  obtain ⟨Ab, cb, rfl, _⟩ := hb
  obtain ⟨Ac, cc, rfl, _⟩ := hc
  clear hd hsa hsb hsc
  go_enter Try.func7, Try.ntmps7
  have HB0 := Lib.hid (RowKit.Below.refl w.heap.size w)
  go_wp2_with fail
  have hb : RowKit.Below w.heap.size w (w.alloc (Obj.cells #[Value.slice Aa a.length ca, Value.slice Ab b.length cb, Value.slice Ac c.length cc] 22)) := (RowKit.Below.refl _ _).alloc (Nat.le_refl _) _
  have k0 : (w.alloc (Obj.cells #[Value.slice Aa a.length ca, Value.slice Ab b.length cb, Value.slice Ac c.length cc] 22)).cell? ⟨w.heap.size, 0, none⟩ = some (Value.slice Aa a.length ca) := by go_simp
  have k1 : (w.alloc (Obj.cells #[Value.slice Aa a.length ca, Value.slice Ab b.length cb, Value.slice Ac c.length cc] 22)).cell? ⟨w.heap.size, 1, none⟩ = some (Value.slice Ab b.length cb) := by go_simp
  have k2 : (w.alloc (Obj.cells #[Value.slice Aa a.length ca, Value.slice Ab b.length cb, Value.slice Ac c.length cc] 22)).cell? ⟨w.heap.size, 2, none⟩ = some (Value.slice Ac c.length cc) := by go_simp
  generalize w.alloc (Obj.cells #[Value.slice Aa a.length ca, Value.slice Ab b.length cb, Value.slice Ac c.length cc] 22) = w1 at *
  have HB1 := Lib.hid (below_trans HB0.out hb)
  clear hb HB0
  go_wp2_with fail
  refine (many3 (Ha.out.below HB1.out) (Hb.out.below HB1.out) (Hc.out.below HB1.out) k0 k1 k2).mono ?_
  rintro e _ ⟨rfl, rfl⟩
  rw [Hhd.out]
  clear k0 k1 k2
  go_wp2_with fail
  refine (check_is (Ha.out.below HB1.out) (chkE_yes Hhsa.out)).mono ?_
  rintro e w2 ⟨rfl, hb⟩
  have HB2 := Lib.hid (below_trans HB1.out hb)
  clear hb HB1
  go_wp2_with fail
  refine (check_is (Hb.out.below HB2.out) (chkE_yes Hhsb.out)).mono ?_
  rintro e w3 ⟨rfl, hb⟩
  have HB3 := Lib.hid (below_trans HB2.out hb)
  clear hb HB2
  go_wp2_with fail
  refine (check_is (Hc.out.below HB3.out) (chkE_no Hhsc.out)).mono ?_
  rintro e w4 ⟨rfl, hb⟩
  have HB4 := Lib.hid (below_trans HB3.out hb)
  clear hb HB3
  go_wp2_with fail
  refine (awake_calls _).mono ?_
  rintro e w5 ⟨rfl, hb⟩
  have HB5 := Lib.hid (below_trans HB4.out hb)
  clear hb HB4
  go_wp2
  go_ret
  exact ⟨rfl, HB5.out⟩
set_option maxHeartbeats 4000000 in
set_option maxRecDepth 100000 in
theorem laws_yes {w : World} {va vb vc : Value} {a b c : List R} (ha : RdR w va a) (hb : RdR w vb b) (hc : RdR w vc c) (hd : (decide (40 < a.length) || (decide (40 < b.length) || decide (40 < c.length))) = false) (hl : a.length ≤ 40) (hl2 : b.length ≤ 40) (hl3 : c.length ≤ 40) (hsa : IsSet a) (hsb : IsSet b) (hsc : IsSet c) :
    Calls Try.prog 7 #[va, vb, vc] w fun e w' => e = .returned (.bool true) ∧ RowKit.Below w.heap.size w w' := by
  have Ha := Lib.hid ha
  have Hb := Lib.hid hb
  have Hc := Lib.hid hc
  have Hhd := Lib.hid hd
  have Hhsa := Lib.hid hsa
  have Hhsb := Lib.hid hsb
  have Hhsc := Lib.hid hsc
  obtain ⟨Aa, ca, rfl, _⟩ := ha
  obtain ⟨Ab, cb, rfl, _⟩ := hb
  obtain ⟨Ac, cc, rfl, _⟩ := hc
  clear hd hsa hsb hsc
  go_enter Try.func7, Try.ntmps7
  have HB0 := Lib.hid (RowKit.Below.refl w.heap.size w)
  go_wp2_with fail
  have hb : RowKit.Below w.heap.size w (w.alloc (Obj.cells #[Value.slice Aa a.length ca, Value.slice Ab b.length cb, Value.slice Ac c.length cc] 22)) := (RowKit.Below.refl _ _).alloc (Nat.le_refl _) _
  have k0 : (w.alloc (Obj.cells #[Value.slice Aa a.length ca, Value.slice Ab b.length cb, Value.slice Ac c.length cc] 22)).cell? ⟨w.heap.size, 0, none⟩ = some (Value.slice Aa a.length ca) := by go_simp
  have k1 : (w.alloc (Obj.cells #[Value.slice Aa a.length ca, Value.slice Ab b.length cb, Value.slice Ac c.length cc] 22)).cell? ⟨w.heap.size, 1, none⟩ = some (Value.slice Ab b.length cb) := by go_simp
  have k2 : (w.alloc (Obj.cells #[Value.slice Aa a.length ca, Value.slice Ab b.length cb, Value.slice Ac c.length cc] 22)).cell? ⟨w.heap.size, 2, none⟩ = some (Value.slice Ac c.length cc) := by go_simp
  generalize w.alloc (Obj.cells #[Value.slice Aa a.length ca, Value.slice Ab b.length cb, Value.slice Ac c.length cc] 22) = w1 at *
  have HB1 := Lib.hid (below_trans HB0.out hb)
  clear hb HB0
  go_wp2_with fail
  refine (many3 (Ha.out.below HB1.out) (Hb.out.below HB1.out) (Hc.out.below HB1.out) k0 k1 k2).mono ?_
  rintro e _ ⟨rfl, rfl⟩
  rw [Hhd.out]
  clear k0 k1 k2
  go_wp2_with fail
  refine (check_is (Ha.out.below HB1.out) (chkE_yes Hhsa.out)).mono ?_
  rintro e w2 ⟨rfl, hb⟩
  have HB2 := Lib.hid (below_trans HB1.out hb)
  clear hb HB1
  go_wp2_with fail
  refine (check_is (Hb.out.below HB2.out) (chkE_yes Hhsb.out)).mono ?_
  rintro e w3 ⟨rfl, hb⟩
  have HB3 := Lib.hid (below_trans HB2.out hb)
  clear hb HB2
  go_wp2_with fail
  refine (check_is (Hc.out.below HB3.out) (chkE_yes Hhsc.out)).mono ?_
  rintro e w4 ⟨rfl, hb⟩
  have HB4 := Lib.hid (below_trans HB3.out hb)
  clear hb HB3
  go_wp2_with fail
  refine (lor_yes (Ha.out.below HB4.out) (Hb.out.below HB4.out) Hhsa.out Hhsb.out (by omega) (by omega)).mono ?_
  rintro e w5 ⟨zq1, sq1, rfl, hn, hr, hb⟩
  have HNq1 := Lib.hid hn
  have hlq1 : sq1.length ≤ 2 * (a.length + b.length) := hn.2.2
  clear hn
  have Hq1_5 := Lib.hid hr
  have HB5 := Lib.hid (below_trans HB4.out hb)
  clear hb HB4 hr
  go_wp2_with fail
  refine (lor_yes (Hb.out.below HB5.out) (Ha.out.below HB5.out) Hhsb.out Hhsa.out (by omega) (by omega)).mono ?_
  rintro e w6 ⟨zq2, sq2, rfl, hn, hr, hb⟩
  have HNq2 := Lib.hid hn
  have hlq2 : sq2.length ≤ 2 * (b.length + a.length) := hn.2.2
  clear hn
  have Hq1_6 := Lib.hid (Hq1_5.out.below hb)
  have Hq2_6 := Lib.hid hr
  have HB6 := Lib.hid (below_trans HB5.out hb)
  clear hb HB5 Hq1_5 hr
  go_wp2_with fail
  refine (eq_is Hq1_6.out Hq2_6.out (IsSet.ext HNq1.out.1 HNq2.out.1 fun n => by simp only [made_or HNq1.out, made_or HNq2.out]; by_cases p : mem a n <;> by_cases q : mem b n <;> by_cases r : mem c n <;> simp [p, q, r])).mono ?_
  rintro e w7 ⟨rfl, hb⟩
  have Hq1_7 := Lib.hid (Hq1_6.out.below hb)
  have Hq2_7 := Lib.hid (Hq2_6.out.below hb)
  have HB7 := Lib.hid (below_trans HB6.out hb)
  clear hb HB6 Hq1_6 Hq2_6
  clear Hq1_7 Hq2_7
  clear HNq1 hlq1 HNq2 hlq2
  go_wp2_with fail
  refine (land_yes (Ha.out.below HB7.out) (Hb.out.below HB7.out) Hhsa.out Hhsb.out (by omega) (by omega)).mono ?_
  rintro e w8 ⟨zq3, sq3, rfl, hn, hr, hb⟩
  have HNq3 := Lib.hid hn
  have hlq3 : sq3.length ≤ 2 * (a.length + b.length) := hn.2.2
  clear hn
  have Hq3_8 := Lib.hid hr
  have HB8 := Lib.hid (below_trans HB7.out hb)
  clear hb HB7 hr
  go_wp2_with fail
  refine (land_yes (Hb.out.below HB8.out) (Ha.out.below HB8.out) Hhsb.out Hhsa.out (by omega) (by omega)).mono ?_
  rintro e w9 ⟨zq4, sq4, rfl, hn, hr, hb⟩
  have HNq4 := Lib.hid hn
  have hlq4 : sq4.length ≤ 2 * (b.length + a.length) := hn.2.2
  clear hn
  have Hq3_9 := Lib.hid (Hq3_8.out.below hb)
  have Hq4_9 := Lib.hid hr
  have HB9 := Lib.hid (below_trans HB8.out hb)
  clear hb HB8 Hq3_8 hr
  go_wp2_with fail
  refine (eq_is Hq3_9.out Hq4_9.out (IsSet.ext HNq3.out.1 HNq4.out.1 fun n => by simp only [made_and HNq3.out, made_and HNq4.out]; by_cases p : mem a n <;> by_cases q : mem b n <;> by_cases r : mem c n <;> simp [p, q, r])).mono ?_
  rintro e w10 ⟨rfl, hb⟩
  have Hq3_10 := Lib.hid (Hq3_9.out.below hb)
  have Hq4_10 := Lib.hid (Hq4_9.out.below hb)
  have HB10 := Lib.hid (below_trans HB9.out hb)
  clear hb HB9 Hq3_9 Hq4_9
  clear Hq3_10 Hq4_10
  clear HNq3 hlq3 HNq4 hlq4
  go_wp2_with fail
  refine (lor_yes (Ha.out.below HB10.out) (Ha.out.below HB10.out) Hhsa.out Hhsa.out (by omega) (by omega)).mono ?_
  rintro e w11 ⟨zq5, sq5, rfl, hn, hr, hb⟩
  have HNq5 := Lib.hid hn
  have hlq5 : sq5.length ≤ 2 * (a.length + a.length) := hn.2.2
  clear hn
  have Hq5_11 := Lib.hid hr
  have HB11 := Lib.hid (below_trans HB10.out hb)
  clear hb HB10 hr
  go_wp2_with fail
  refine (eq_is Hq5_11.out (Ha.out.below HB11.out) (IsSet.ext HNq5.out.1 Hhsa.out fun n => by simp only [made_or HNq5.out]; by_cases p : mem a n <;> by_cases q : mem b n <;> by_cases r : mem c n <;> simp [p, q, r])).mono ?_
  rintro e w12 ⟨rfl, hb⟩
  have Hq5_12 := Lib.hid (Hq5_11.out.below hb)
  have HB12 := Lib.hid (below_trans HB11.out hb)
  clear hb HB11 Hq5_11
  clear Hq5_12
  clear HNq5 hlq5
  go_wp2_with fail
  refine (land_yes (Ha.out.below HB12.out) (Ha.out.below HB12.out) Hhsa.out Hhsa.out (by omega) (by omega)).mono ?_
  rintro e w13 ⟨zq6, sq6, rfl, hn, hr, hb⟩
  have HNq6 := Lib.hid hn
  have hlq6 : sq6.length ≤ 2 * (a.length + a.length) := hn.2.2
  clear hn
  have Hq6_13 := Lib.hid hr
  have HB13 := Lib.hid (below_trans HB12.out hb)
  clear hb HB12 hr
  go_wp2_with fail
  refine (eq_is Hq6_13.out (Ha.out.below HB13.out) (IsSet.ext HNq6.out.1 Hhsa.out fun n => by simp only [made_and HNq6.out]; by_cases p : mem a n <;> by_cases q : mem b n <;> by_cases r : mem c n <;> simp [p, q, r])).mono ?_
  rintro e w14 ⟨rfl, hb⟩
  have Hq6_14 := Lib.hid (Hq6_13.out.below hb)
  have HB14 := Lib.hid (below_trans HB13.out hb)
  clear hb HB13 Hq6_13
  clear Hq6_14
  clear HNq6 hlq6
  go_wp2_with fail
  refine (lor_yes (Ha.out.below HB14.out) (Hb.out.below HB14.out) Hhsa.out Hhsb.out (by omega) (by omega)).mono ?_
  rintro e w15 ⟨zq7, sq7, rfl, hn, hr, hb⟩
  have HNq7 := Lib.hid hn
  have hlq7 : sq7.length ≤ 2 * (a.length + b.length) := hn.2.2
  clear hn
  have Hq7_15 := Lib.hid hr
  have HB15 := Lib.hid (below_trans HB14.out hb)
  clear hb HB14 hr
  go_wp2_with fail
  refine (lor_yes Hq7_15.out (Hc.out.below HB15.out) HNq7.out.1 Hhsc.out (by omega) (by omega)).mono ?_
  rintro e w16 ⟨zq8, sq8, rfl, hn, hr, hb⟩
  have HNq8 := Lib.hid hn
  have hlq8 : sq8.length ≤ 2 * (sq7.length + c.length) := hn.2.2
  clear hn
  have Hq7_16 := Lib.hid (Hq7_15.out.below hb)
  have Hq8_16 := Lib.hid hr
  have HB16 := Lib.hid (below_trans HB15.out hb)
  clear hb HB15 Hq7_15 hr
  go_wp2_with fail
  refine (lor_yes (Hb.out.below HB16.out) (Hc.out.below HB16.out) Hhsb.out Hhsc.out (by omega) (by omega)).mono ?_
  rintro e w17 ⟨zq9, sq9, rfl, hn, hr, hb⟩
  have HNq9 := Lib.hid hn
  have hlq9 : sq9.length ≤ 2 * (b.length + c.length) := hn.2.2
  clear hn
  have Hq7_17 := Lib.hid (Hq7_16.out.below hb)
  have Hq8_17 := Lib.hid (Hq8_16.out.below hb)
  have Hq9_17 := Lib.hid hr
  have HB17 := Lib.hid (below_trans HB16.out hb)
  clear hb HB16 Hq7_16 Hq8_16 hr
  go_wp2_with fail
  refine (lor_yes (Ha.out.below HB17.out) Hq9_17.out Hhsa.out HNq9.out.1 (by omega) (by omega)).mono ?_
  rintro e w18 ⟨zq10, sq10, rfl, hn, hr, hb⟩
  have HNq10 := Lib.hid hn
  have hlq10 : sq10.length ≤ 2 * (a.length + sq9.length) := hn.2.2
  clear hn
  have Hq7_18 := Lib.hid (Hq7_17.out.below hb)
  have Hq8_18 := Lib.hid (Hq8_17.out.below hb)
  have Hq9_18 := Lib.hid (Hq9_17.out.below hb)
  have Hq10_18 := Lib.hid hr
  have HB18 := Lib.hid (below_trans HB17.out hb)
  clear hb HB17 Hq7_17 Hq8_17 Hq9_17 hr
  go_wp2_with fail
  refine (eq_is Hq8_18.out Hq10_18.out (IsSet.ext HNq8.out.1 HNq10.out.1 fun n => by simp only [made_or HNq7.out, made_or HNq8.out, made_or HNq9.out, made_or HNq10.out]; by_cases p : mem a n <;> by_cases q : mem b n <;> by_cases r : mem c n <;> simp [p, q, r])).mono ?_
  rintro e w19 ⟨rfl, hb⟩
  have Hq7_19 := Lib.hid (Hq7_18.out.below hb)
  have Hq8_19 := Lib.hid (Hq8_18.out.below hb)
  have Hq9_19 := Lib.hid (Hq9_18.out.below hb)
  have Hq10_19 := Lib.hid (Hq10_18.out.below hb)
  have HB19 := Lib.hid (below_trans HB18.out hb)
  clear hb HB18 Hq7_18 Hq8_18 Hq9_18 Hq10_18
  clear Hq7_19 Hq8_19 Hq9_19 Hq10_19
  clear HNq7 hlq7 HNq8 hlq8 HNq9 hlq9 HNq10 hlq10
  go_wp2_with fail
  refine (land_yes (Ha.out.below HB19.out) (Hb.out.below HB19.out) Hhsa.out Hhsb.out (by omega) (by omega)).mono ?_
  rintro e w20 ⟨zq11, sq11, rfl, hn, hr, hb⟩
  have HNq11 := Lib.hid hn
  have hlq11 : sq11.length ≤ 2 * (a.length + b.length) := hn.2.2
  clear hn
  have Hq11_20 := Lib.hid hr
  have HB20 := Lib.hid (below_trans HB19.out hb)
  clear hb HB19 hr
  go_wp2_with fail
  refine (land_yes Hq11_20.out (Hc.out.below HB20.out) HNq11.out.1 Hhsc.out (by omega) (by omega)).mono ?_
  rintro e w21 ⟨zq12, sq12, rfl, hn, hr, hb⟩
  have HNq12 := Lib.hid hn
  have hlq12 : sq12.length ≤ 2 * (sq11.length + c.length) := hn.2.2
  clear hn
  have Hq11_21 := Lib.hid (Hq11_20.out.below hb)
  have Hq12_21 := Lib.hid hr
  have HB21 := Lib.hid (below_trans HB20.out hb)
  clear hb HB20 Hq11_20 hr
  go_wp2_with fail
  refine (land_yes (Hb.out.below HB21.out) (Hc.out.below HB21.out) Hhsb.out Hhsc.out (by omega) (by omega)).mono ?_
  rintro e w22 ⟨zq13, sq13, rfl, hn, hr, hb⟩
  have HNq13 := Lib.hid hn
  have hlq13 : sq13.length ≤ 2 * (b.length + c.length) := hn.2.2
  clear hn
  have Hq11_22 := Lib.hid (Hq11_21.out.below hb)
  have Hq12_22 := Lib.hid (Hq12_21.out.below hb)
  have Hq13_22 := Lib.hid hr
  have HB22 := Lib.hid (below_trans HB21.out hb)
  clear hb HB21 Hq11_21 Hq12_21 hr
  go_wp2_with fail
  refine (land_yes (Ha.out.below HB22.out) Hq13_22.out Hhsa.out HNq13.out.1 (by omega) (by omega)).mono ?_
  rintro e w23 ⟨zq14, sq14, rfl, hn, hr, hb⟩
  have HNq14 := Lib.hid hn
  have hlq14 : sq14.length ≤ 2 * (a.length + sq13.length) := hn.2.2
  clear hn
  have Hq11_23 := Lib.hid (Hq11_22.out.below hb)
  have Hq12_23 := Lib.hid (Hq12_22.out.below hb)
  have Hq13_23 := Lib.hid (Hq13_22.out.below hb)
  have Hq14_23 := Lib.hid hr
  have HB23 := Lib.hid (below_trans HB22.out hb)
  clear hb HB22 Hq11_22 Hq12_22 Hq13_22 hr
  go_wp2_with fail
  refine (eq_is Hq12_23.out Hq14_23.out (IsSet.ext HNq12.out.1 HNq14.out.1 fun n => by simp only [made_and HNq11.out, made_and HNq12.out, made_and HNq13.out, made_and HNq14.out]; by_cases p : mem a n <;> by_cases q : mem b n <;> by_cases r : mem c n <;> simp [p, q, r])).mono ?_
  rintro e w24 ⟨rfl, hb⟩
  have Hq11_24 := Lib.hid (Hq11_23.out.below hb)
  have Hq12_24 := Lib.hid (Hq12_23.out.below hb)
  have Hq13_24 := Lib.hid (Hq13_23.out.below hb)
  have Hq14_24 := Lib.hid (Hq14_23.out.below hb)
  have HB24 := Lib.hid (below_trans HB23.out hb)
  clear hb HB23 Hq11_23 Hq12_23 Hq13_23 Hq14_23
  clear Hq11_24 Hq12_24 Hq13_24 Hq14_24
  clear HNq11 hlq11 HNq12 hlq12 HNq13 hlq13 HNq14 hlq14
  go_wp2_with fail
  refine (lor_yes (Hb.out.below HB24.out) (Hc.out.below HB24.out) Hhsb.out Hhsc.out (by omega) (by omega)).mono ?_
  rintro e w25 ⟨zq15, sq15, rfl, hn, hr, hb⟩
  have HNq15 := Lib.hid hn
  have hlq15 : sq15.length ≤ 2 * (b.length + c.length) := hn.2.2
  clear hn
  have Hq15_25 := Lib.hid hr
  have HB25 := Lib.hid (below_trans HB24.out hb)
  clear hb HB24 hr
  go_wp2_with fail
  refine (land_yes (Ha.out.below HB25.out) Hq15_25.out Hhsa.out HNq15.out.1 (by omega) (by omega)).mono ?_
  rintro e w26 ⟨zq16, sq16, rfl, hn, hr, hb⟩
  have HNq16 := Lib.hid hn
  have hlq16 : sq16.length ≤ 2 * (a.length + sq15.length) := hn.2.2
  clear hn
  have Hq15_26 := Lib.hid (Hq15_25.out.below hb)
  have Hq16_26 := Lib.hid hr
  have HB26 := Lib.hid (below_trans HB25.out hb)
  clear hb HB25 Hq15_25 hr
  go_wp2_with fail
  refine (land_yes (Ha.out.below HB26.out) (Hb.out.below HB26.out) Hhsa.out Hhsb.out (by omega) (by omega)).mono ?_
  rintro e w27 ⟨zq17, sq17, rfl, hn, hr, hb⟩
  have HNq17 := Lib.hid hn
  have hlq17 : sq17.length ≤ 2 * (a.length + b.length) := hn.2.2
  clear hn
  have Hq15_27 := Lib.hid (Hq15_26.out.below hb)
  have Hq16_27 := Lib.hid (Hq16_26.out.below hb)
  have Hq17_27 := Lib.hid hr
  have HB27 := Lib.hid (below_trans HB26.out hb)
  clear hb HB26 Hq15_26 Hq16_26 hr
  go_wp2_with fail
  refine (land_yes (Ha.out.below HB27.out) (Hc.out.below HB27.out) Hhsa.out Hhsc.out (by omega) (by omega)).mono ?_
  rintro e w28 ⟨zq18, sq18, rfl, hn, hr, hb⟩
  have HNq18 := Lib.hid hn
  have hlq18 : sq18.length ≤ 2 * (a.length + c.length) := hn.2.2
  clear hn
  have Hq15_28 := Lib.hid (Hq15_27.out.below hb)
  have Hq16_28 := Lib.hid (Hq16_27.out.below hb)
  have Hq17_28 := Lib.hid (Hq17_27.out.below hb)
  have Hq18_28 := Lib.hid hr
  have HB28 := Lib.hid (below_trans HB27.out hb)
  clear hb HB27 Hq15_27 Hq16_27 Hq17_27 hr
  go_wp2_with fail
  refine (lor_yes Hq17_28.out Hq18_28.out HNq17.out.1 HNq18.out.1 (by omega) (by omega)).mono ?_
  rintro e w29 ⟨zq19, sq19, rfl, hn, hr, hb⟩
  have HNq19 := Lib.hid hn
  have hlq19 : sq19.length ≤ 2 * (sq17.length + sq18.length) := hn.2.2
  clear hn
  have Hq15_29 := Lib.hid (Hq15_28.out.below hb)
  have Hq16_29 := Lib.hid (Hq16_28.out.below hb)
  have Hq17_29 := Lib.hid (Hq17_28.out.below hb)
  have Hq18_29 := Lib.hid (Hq18_28.out.below hb)
  have Hq19_29 := Lib.hid hr
  have HB29 := Lib.hid (below_trans HB28.out hb)
  clear hb HB28 Hq15_28 Hq16_28 Hq17_28 Hq18_28 hr
  go_wp2_with fail
  refine (eq_is Hq16_29.out Hq19_29.out (IsSet.ext HNq16.out.1 HNq19.out.1 fun n => by simp only [made_or HNq15.out, made_and HNq16.out, made_and HNq17.out, made_and HNq18.out, made_or HNq19.out]; by_cases p : mem a n <;> by_cases q : mem b n <;> by_cases r : mem c n <;> simp [p, q, r])).mono ?_
  rintro e w30 ⟨rfl, hb⟩
  have Hq15_30 := Lib.hid (Hq15_29.out.below hb)
  have Hq16_30 := Lib.hid (Hq16_29.out.below hb)
  have Hq17_30 := Lib.hid (Hq17_29.out.below hb)
  have Hq18_30 := Lib.hid (Hq18_29.out.below hb)
  have Hq19_30 := Lib.hid (Hq19_29.out.below hb)
  have HB30 := Lib.hid (below_trans HB29.out hb)
  clear hb HB29 Hq15_29 Hq16_29 Hq17_29 Hq18_29 Hq19_29
  clear Hq15_30 Hq16_30 Hq17_30 Hq18_30 Hq19_30
  clear HNq15 hlq15 HNq16 hlq16 HNq17 hlq17 HNq18 hlq18 HNq19 hlq19
  go_wp2_with fail
  refine (land_yes (Hb.out.below HB30.out) (Hc.out.below HB30.out) Hhsb.out Hhsc.out (by omega) (by omega)).mono ?_
  rintro e w31 ⟨zq20, sq20, rfl, hn, hr, hb⟩
  have HNq20 := Lib.hid hn
  have hlq20 : sq20.length ≤ 2 * (b.length + c.length) := hn.2.2
  clear hn
  have Hq20_31 := Lib.hid hr
  have HB31 := Lib.hid (below_trans HB30.out hb)
  clear hb HB30 hr
  go_wp2_with fail
  refine (lor_yes (Ha.out.below HB31.out) Hq20_31.out Hhsa.out HNq20.out.1 (by omega) (by omega)).mono ?_
  rintro e w32 ⟨zq21, sq21, rfl, hn, hr, hb⟩
  have HNq21 := Lib.hid hn
  have hlq21 : sq21.length ≤ 2 * (a.length + sq20.length) := hn.2.2
  clear hn
  have Hq20_32 := Lib.hid (Hq20_31.out.below hb)
  have Hq21_32 := Lib.hid hr
  have HB32 := Lib.hid (below_trans HB31.out hb)
  clear hb HB31 Hq20_31 hr
  go_wp2_with fail
  refine (lor_yes (Ha.out.below HB32.out) (Hb.out.below HB32.out) Hhsa.out Hhsb.out (by omega) (by omega)).mono ?_
  rintro e w33 ⟨zq22, sq22, rfl, hn, hr, hb⟩
  have HNq22 := Lib.hid hn
  have hlq22 : sq22.length ≤ 2 * (a.length + b.length) := hn.2.2
  clear hn
  have Hq20_33 := Lib.hid (Hq20_32.out.below hb)
  have Hq21_33 := Lib.hid (Hq21_32.out.below hb)
  have Hq22_33 := Lib.hid hr
  have HB33 := Lib.hid (below_trans HB32.out hb)
  clear hb HB32 Hq20_32 Hq21_32 hr
  go_wp2_with fail
  refine (lor_yes (Ha.out.below HB33.out) (Hc.out.below HB33.out) Hhsa.out Hhsc.out (by omega) (by omega)).mono ?_
  rintro e w34 ⟨zq23, sq23, rfl, hn, hr, hb⟩
  have HNq23 := Lib.hid hn
  have hlq23 : sq23.length ≤ 2 * (a.length + c.length) := hn.2.2
  clear hn
  have Hq20_34 := Lib.hid (Hq20_33.out.below hb)
  have Hq21_34 := Lib.hid (Hq21_33.out.below hb)
  have Hq22_34 := Lib.hid (Hq22_33.out.below hb)
  have Hq23_34 := Lib.hid hr
  have HB34 := Lib.hid (below_trans HB33.out hb)
  clear hb HB33 Hq20_33 Hq21_33 Hq22_33 hr
  go_wp2_with fail
  refine (land_yes Hq22_34.out Hq23_34.out HNq22.out.1 HNq23.out.1 (by omega) (by omega)).mono ?_
  rintro e w35 ⟨zq24, sq24, rfl, hn, hr, hb⟩
  have HNq24 := Lib.hid hn
  have hlq24 : sq24.length ≤ 2 * (sq22.length + sq23.length) := hn.2.2
  clear hn
  have Hq20_35 := Lib.hid (Hq20_34.out.below hb)
  have Hq21_35 := Lib.hid (Hq21_34.out.below hb)
  have Hq22_35 := Lib.hid (Hq22_34.out.below hb)
  have Hq23_35 := Lib.hid (Hq23_34.out.below hb)
  have Hq24_35 := Lib.hid hr
  have HB35 := Lib.hid (below_trans HB34.out hb)
  clear hb HB34 Hq20_34 Hq21_34 Hq22_34 Hq23_34 hr
  go_wp2_with fail
  refine (eq_is Hq21_35.out Hq24_35.out (IsSet.ext HNq21.out.1 HNq24.out.1 fun n => by simp only [made_and HNq20.out, made_or HNq21.out, made_or HNq22.out, made_or HNq23.out, made_and HNq24.out]; by_cases p : mem a n <;> by_cases q : mem b n <;> by_cases r : mem c n <;> simp [p, q, r])).mono ?_
  rintro e w36 ⟨rfl, hb⟩
  have Hq20_36 := Lib.hid (Hq20_35.out.below hb)
  have Hq21_36 := Lib.hid (Hq21_35.out.below hb)
  have Hq22_36 := Lib.hid (Hq22_35.out.below hb)
  have Hq23_36 := Lib.hid (Hq23_35.out.below hb)
  have Hq24_36 := Lib.hid (Hq24_35.out.below hb)
  have HB36 := Lib.hid (below_trans HB35.out hb)
  clear hb HB35 Hq20_35 Hq21_35 Hq22_35 Hq23_35 Hq24_35
  clear Hq20_36 Hq21_36 Hq22_36 Hq23_36 Hq24_36
  clear HNq20 hlq20 HNq21 hlq21 HNq22 hlq22 HNq23 hlq23 HNq24 hlq24
  go_wp2_with fail
  refine (awake_calls _).mono ?_
  rintro e w37 ⟨rfl, hb⟩
  have HB37 := Lib.hid (below_trans HB36.out hb)
  clear hb HB36
  go_wp2
  go_ret
  exact ⟨rfl, HB37.out⟩
theorem laws_walk {w : World} {va vb vc : Value} {a b c : List R} (ha : RdR w va a) (hb : RdR w vb b) (hc : RdR w vc c) :
    Calls Try.prog 7 #[va, vb, vc] w fun e w' => e = .returned (.bool true) ∧ RowKit.Below w.heap.size w w' := by
  by_cases hbig : 40 < a.length ∨ 40 < b.length ∨ 40 < c.length
  · exact laws_big ha hb hc (by simpa using hbig)
  · have hd : (decide (40 < a.length) || (decide (40 < b.length) || decide (40 < c.length))) = false := by simp; omega
    by_cases h1 : IsSet a
    · by_cases h2 : IsSet b
      · by_cases h3 : IsSet c
        · exact laws_yes ha hb hc hd (by omega) (by omega) (by omega) h1 h2 h3
        · exact laws_no3 ha hb hc hd h1 h2 h3
      · exact laws_no2 ha hb hc hd h1 h2
    · exact laws_no1 ha hb hc hd h1
end Go.Proofs.Ytlbfkcgejpboeaa.Rs
