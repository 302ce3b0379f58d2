/-
  The laws RevsetMeans and RevsetCounts, walked.
-/
import Derived.Test.YtlbfkcgejpboeaaRsP
namespace Go.Proofs.Ytlbfkcgejpboeaa.Rs
open Go.RowKit Go.Proofs Go.Sort
set_option linter.unusedVariables false
set_option linter.unusedSimpArgs false
set_option linter.unusedSectionVars false

theorem filter_comm_len {a b u m : List R} (ha : IsSet a) (hb : IsSet b) (hu : Made 0 a b u) (hm : Made 1 a b m) : countR u = countR a + countR b - countR m := by
  rw [← expand_len ha.1, ← expand_len hb.1, ← expand_len hu.1.1, ← expand_len hm.1.1]
  have e1 : expand a = (expand u).filter (fun n => memB a n) := expand_filter hu.1 ha _ fun n => by
    rw [hu.2.1]; unfold op3; simp only [if_true, Bool.or_eq_true, memB_iff]; exact ⟨fun h => ⟨.inl h, h⟩, fun h => h.2⟩
  have e2 : expand m = (expand b).filter (fun n => memB a n) := expand_filter hb hm.1 _ fun n => by
    rw [hm.2.1]; unfold op3; simp only [Nat.one_ne_zero, if_false, if_true, Bool.and_eq_true, memB_iff]; exact and_comm
  have e3 : (expand u).filter (fun n => !memB a n) = (expand b).filter (fun n => !memB a n) := by
    refine sorted_ext ((expand_sorted hu.1).filter _) ((expand_sorted hb).filter _) fun n => ?_
    rw [List.mem_filter, List.mem_filter, mem_expand, mem_expand, hu.2.1]
    unfold op3
    simp only [if_true, Bool.or_eq_true, memB_iff]
    constructor
    · rintro ⟨h1 | h1, h2⟩
      · rw [memB_iff.2 h1] at h2; cases h2
      · exact ⟨h1, h2⟩
    · rintro ⟨h1, h2⟩; exact ⟨.inr h1, h2⟩
  have f1 := filter_len (l := expand u) (fun n => memB a n)
  have f2 := filter_len (l := expand b) (fun n => memB a n)
  rw [e3] at f1
  rw [← e1] at f1
  rw [← e2] at f2
  omega
theorem parts_len {a b m d : List R} (ha : IsSet a) (hm : Made 1 a b m) (hd : Made 2 a b d) : countR a = countR m + countR d :=
  count_parts ha hm.1 hd.1 (fun n => memB b n) (fun n => by
    rw [hm.2.1]; unfold op3; simp only [Nat.one_ne_zero, if_false, if_true, Bool.and_eq_true, memB_iff]) (fun n => by
    rw [hd.2.1]; unfold op3; simp only [show ¬ (2 : Nat) = 0 by omega, show ¬ (2 : Nat) = 1 by omega, if_false, Bool.and_eq_true, memB_iff, Bool.not_eq_true'])
theorem made_mem {k : Nat} {a b s : List R} (h : Made k a b s) {n : Int} {p q : Bool} (hp : memB a n = p) (hq : memB b n = q) : memB s n = op3 k p q := by
  rw [← hp, ← hq, Bool.eq_iff_iff, memB_iff]; exact h.2.1 n
theorem count_is {w : World} {v : Value} {rs : List R} {x : Int} (h : RdR w v rs) (hs : IsSet rs) (hl : rs.length ≤ 1000000) (hx : countR rs = x) :
    Calls Try.prog 16 #[v] w fun e w' => e = .returned (.tuple #[.int .i64 x, .int .i64 0]) ∧ RowKit.Below w.heap.size w w' := by
  rw [← hx]; exact count_calls h hs hl
set_option maxHeartbeats 4000000 in
set_option maxRecDepth 100000 in
theorem means_big {w : World} {va vb : Value} {a b : List R} {n : Int} (ha : RdR w va a) (hb : RdR w vb b) (hd : (decide (40 < a.length) || decide (40 < b.length)) = true) :
    Calls Try.prog 9 #[va, vb, .int .i64 n] w fun e w' => e = .returned (.bool true) ∧ RowKit.Below w.heap.size w w' := by
  have Ha := Lib.hid ha
  have Hb := Lib.hid hb
  have Hhd := Lib.hid hd
  obtain ⟨Aa, ca, rfl, _⟩ := ha
  obtain ⟨Ab, cb, rfl, _⟩ := hb
  clear hd
  go_enter Try.func9, Try.ntmps9
  have HB0 := Lib.hid (RowKit.Below.refl w.heap.size w)
  go_wp2_with fail
  have hb : RowKit.Below w.heap.size w (w.alloc (Obj.cells #[Value.slice Aa a.length ca, Value.slice Ab b.length cb] 22)) := (RowKit.Below.refl _ _).alloc (Nat.le_refl _) _
  have k0 : (w.alloc (Obj.cells #[Value.slice Aa a.length ca, Value.slice Ab b.length cb] 22)).cell? ⟨w.heap.size, 0, none⟩ = some (Value.slice Aa a.length ca) := by go_simp
  have k1 : (w.alloc (Obj.cells #[Value.slice Aa a.length ca, Value.slice Ab b.length cb] 22)).cell? ⟨w.heap.size, 1, none⟩ = some (Value.slice Ab b.length cb) := by go_simp
  generalize w.alloc (Obj.cells #[Value.slice Aa a.length ca, Value.slice Ab b.length cb] 22) = w1 at *
  have HB1 := Lib.hid (below_trans HB0.out hb)
  clear hb HB0
  go_wp2_with fail
  refine (many2 (Ha.out.below HB1.out) (Hb.out.below HB1.out) k0 k1).mono ?_
  rintro e _ ⟨rfl, rfl⟩
  rw [Hhd.out]
  clear k0 k1
  go_wp2_with fail
  refine (awake_calls _).mono ?_
  rintro e w2 ⟨rfl, hb⟩
  have HB2 := Lib.hid (below_trans HB1.out hb)
  clear hb HB1
  go_wp2
  go_ret
  exact ⟨rfl, HB2.out⟩
set_option maxHeartbeats 4000000 in
set_option maxRecDepth 100000 in
theorem means_no1 {w : World} {va vb : Value} {a b : List R} {n : Int} (ha : RdR w va a) (hb : RdR w vb b) (hd : (decide (40 < a.length) || decide (40 < b.length)) = false) (hsa : ¬ IsSet a) :
    Calls Try.prog 9 #[va, vb, .int .i64 n] w fun e w' => e = .returned (.bool true) ∧ RowKit.Below w.heap.size w w' := by
  have Ha := Lib.hid ha
  have Hb := Lib.hid hb
  have Hhd := Lib.hid hd
  have Hhsa := Lib.hid hsa
  obtain ⟨Aa, ca, rfl, _⟩ := ha
  obtain ⟨Ab, cb, rfl, _⟩ := hb
  clear hd hsa
  go_enter Try.func9, Try.ntmps9
  have HB0 := Lib.hid (RowKit.Below.refl w.heap.size w)
  go_wp2_with fail
  have hb : RowKit.Below w.heap.size w (w.alloc (Obj.cells #[Value.slice Aa a.length ca, Value.slice Ab b.length cb] 22)) := (RowKit.Below.refl _ _).alloc (Nat.le_refl _) _
  have k0 : (w.alloc (Obj.cells #[Value.slice Aa a.length ca, Value.slice Ab b.length cb] 22)).cell? ⟨w.heap.size, 0, none⟩ = some (Value.slice Aa a.length ca) := by go_simp
  have k1 : (w.alloc (Obj.cells #[Value.slice Aa a.length ca, Value.slice Ab b.length cb] 22)).cell? ⟨w.heap.size, 1, none⟩ = some (Value.slice Ab b.length cb) := by go_simp
  generalize w.alloc (Obj.cells #[Value.slice Aa a.length ca, Value.slice Ab b.length cb] 22) = w1 at *
  have HB1 := Lib.hid (below_trans HB0.out hb)
  clear hb HB0
  go_wp2_with fail
  refine (many2 (Ha.out.below HB1.out) (Hb.out.below HB1.out) k0 k1).mono ?_
  rintro e _ ⟨rfl, rfl⟩
  rw [Hhd.out]
  clear k0 k1
  go_wp2_with fail
  refine (check_is (Ha.out.below HB1.out) (chkE_no Hhsa.out)).mono ?_
  rintro e w2 ⟨rfl, hb⟩
  have HB2 := Lib.hid (below_trans HB1.out hb)
  clear hb HB1
  go_wp2_with fail
  refine (awake_calls _).mono ?_
  rintro e w3 ⟨rfl, hb⟩
  have HB3 := Lib.hid (below_trans HB2.out hb)
  clear hb HB2
  go_wp2
  go_ret
  exact ⟨rfl, HB3.out⟩
set_option maxHeartbeats 4000000 in
set_option maxRecDepth 100000 in
theorem means_no2 {w : World} {va vb : Value} {a b : List R} {n : Int} (ha : RdR w va a) (hb : RdR w vb b) (hd : (decide (40 < a.length) || decide (40 < b.length)) = false) (hsa : IsSet a) (hsb : ¬ IsSet b) :
    Calls Try.prog 9 #[va, vb, .int .i64 n] w fun e w' => e = .returned (.bool true) ∧ RowKit.Below w.heap.size w w' := by
  have Ha := Lib.hid ha
  have Hb := Lib.hid hb
  have Hhd := Lib.hid hd
  have Hhsa := Lib.hid hsa
  have Hhsb := Lib.hid hsb
  obtain ⟨Aa, ca, rfl, _⟩ := ha
  obtain ⟨Ab, cb, rfl, _⟩ := hb
  clear hd hsa hsb
  go_enter Try.func9, Try.ntmps9
  have HB0 := Lib.hid (RowKit.Below.refl w.heap.size w)
  go_wp2_with fail
  have hb : RowKit.Below w.heap.size w (w.alloc (Obj.cells #[Value.slice Aa a.length ca, Value.slice Ab b.length cb] 22)) := (RowKit.Below.refl _ _).alloc (Nat.le_refl _) _
  have k0 : (w.alloc (Obj.cells #[Value.slice Aa a.length ca, Value.slice Ab b.length cb] 22)).cell? ⟨w.heap.size, 0, none⟩ = some (Value.slice Aa a.length ca) := by go_simp
  have k1 : (w.alloc (Obj.cells #[Value.slice Aa a.length ca, Value.slice Ab b.length cb] 22)).cell? ⟨w.heap.size, 1, none⟩ = some (Value.slice Ab b.length cb) := by go_simp
  generalize w.alloc (Obj.cells #[Value.slice Aa a.length ca, Value.slice Ab b.length cb] 22) = w1 at *
  have HB1 := Lib.hid (below_trans HB0.out hb)
  clear hb HB0
  go_wp2_with fail
  refine (many2 (Ha.out.below HB1.out) (Hb.out.below HB1.out) k0 k1).mono ?_
  rintro e _ ⟨rfl, rfl⟩
  rw [Hhd.out]
  clear k0 k1
  go_wp2_with fail
  refine (check_is (Ha.out.below HB1.out) (chkE_yes Hhsa.out)).mono ?_
  rintro e w2 ⟨rfl, hb⟩
  have HB2 := Lib.hid (below_trans HB1.out hb)
  clear hb HB1
  go_wp2_with fail
  refine (check_is (Hb.out.below HB2.out) (chkE_no Hhsb.out)).mono ?_
  rintro e w3 ⟨rfl, hb⟩
  have HB3 := Lib.hid (below_trans HB2.out hb)
  clear hb HB2
  go_wp2_with fail
  refine (awake_calls _).mono ?_
  rintro e w4 ⟨rfl, hb⟩
  have HB4 := Lib.hid (below_trans HB3.out hb)
  clear hb HB3
  go_wp2
  go_ret
  exact ⟨rfl, HB4.out⟩
set_option maxHeartbeats 4000000 in
set_option maxRecDepth 100000 in
theorem means_yes {w : World} {va vb : Value} {a b : List R} {n : Int} (ha : RdR w va a) (hb : RdR w vb b) (hd : (decide (40 < a.length) || decide (40 < b.length)) = false) (hl : a.length ≤ 40) (hl2 : b.length ≤ 40) (hsa : IsSet a) (hsb : IsSet b) (p q : Bool) (hp : memB a n = p) (hq : memB b n = q) :
    Calls Try.prog 9 #[va, vb, .int .i64 n] w fun e w' => e = .returned (.bool true) ∧ RowKit.Below w.heap.size w w' := by
  have Ha := Lib.hid ha
  have Hb := Lib.hid hb
  have Hhd := Lib.hid hd
  have Hhsa := Lib.hid hsa
  have Hhsb := Lib.hid hsb
  have Hhp := Lib.hid hp
  have Hhq := Lib.hid hq
  obtain ⟨Aa, ca, rfl, _⟩ := ha
  obtain ⟨Ab, cb, rfl, _⟩ := hb
  clear hd hsa hsb hp hq
  go_enter Try.func9, Try.ntmps9
  have HB0 := Lib.hid (RowKit.Below.refl w.heap.size w)
  go_wp2_with fail
  have hb : RowKit.Below w.heap.size w (w.alloc (Obj.cells #[Value.slice Aa a.length ca, Value.slice Ab b.length cb] 22)) := (RowKit.Below.refl _ _).alloc (Nat.le_refl _) _
  have k0 : (w.alloc (Obj.cells #[Value.slice Aa a.length ca, Value.slice Ab b.length cb] 22)).cell? ⟨w.heap.size, 0, none⟩ = some (Value.slice Aa a.length ca) := by go_simp
  have k1 : (w.alloc (Obj.cells #[Value.slice Aa a.length ca, Value.slice Ab b.length cb] 22)).cell? ⟨w.heap.size, 1, none⟩ = some (Value.slice Ab b.length cb) := by go_simp
  generalize w.alloc (Obj.cells #[Value.slice Aa a.length ca, Value.slice Ab b.length cb] 22) = w1 at *
  have HB1 := Lib.hid (below_trans HB0.out hb)
  clear hb HB0
  go_wp2_with fail
  refine (many2 (Ha.out.below HB1.out) (Hb.out.below HB1.out) k0 k1).mono ?_
  rintro e _ ⟨rfl, rfl⟩
  rw [Hhd.out]
  clear k0 k1
  go_wp2_with fail
  refine (check_is (Ha.out.below HB1.out) (chkE_yes Hhsa.out)).mono ?_
  rintro e w2 ⟨rfl, hb⟩
  have HB2 := Lib.hid (below_trans HB1.out hb)
  clear hb HB1
  go_wp2_with fail
  refine (check_is (Hb.out.below HB2.out) (chkE_yes Hhsb.out)).mono ?_
  rintro e w3 ⟨rfl, hb⟩
  have HB3 := Lib.hid (below_trans HB2.out hb)
  clear hb HB2
  go_wp2_with fail
  refine (union_yes (Ha.out.below HB3.out) (Hb.out.below HB3.out) Hhsa.out Hhsb.out (by omega) (by omega)).mono ?_
  rintro e w4 ⟨zu, su, rfl, hn, hr, hb⟩
  have HNu := Lib.hid hn
  have hlu : su.length ≤ 2 * (a.length + b.length) := hn.2.2
  clear hn
  have Hu_4 := Lib.hid hr
  have HB4 := Lib.hid (below_trans HB3.out hb)
  clear hb HB3 hr
  go_wp2_with fail
  refine (meet_yes (Ha.out.below HB4.out) (Hb.out.below HB4.out) Hhsa.out Hhsb.out (by omega) (by omega)).mono ?_
  rintro e w5 ⟨zm, sm, rfl, hn, hr, hb⟩
  have HNm := Lib.hid hn
  have hlm : sm.length ≤ 2 * (a.length + b.length) := hn.2.2
  clear hn
  have Hu_5 := Lib.hid (Hu_4.out.below hb)
  have Hm_5 := Lib.hid hr
  have HB5 := Lib.hid (below_trans HB4.out hb)
  clear hb HB4 Hu_4 hr
  go_wp2_with fail
  refine (minus_yes (Ha.out.below HB5.out) (Hb.out.below HB5.out) Hhsa.out Hhsb.out (by omega) (by omega)).mono ?_
  rintro e w6 ⟨zd, sd, rfl, hn, hr, hb⟩
  have HNd := Lib.hid hn
  have hld : sd.length ≤ 2 * (a.length + b.length) := hn.2.2
  clear hn
  have Hu_6 := Lib.hid (Hu_5.out.below hb)
  have Hm_6 := Lib.hid (Hm_5.out.below hb)
  have Hd_6 := Lib.hid hr
  have HB6 := Lib.hid (below_trans HB5.out hb)
  clear hb HB5 Hu_5 Hm_5 hr
  go_wp2_with fail
  refine (check_is Hu_6.out (chkE_yes HNu.out.1)).mono ?_
  rintro e w7 ⟨rfl, hb⟩
  have Hu_7 := Lib.hid (Hu_6.out.below hb)
  have Hm_7 := Lib.hid (Hm_6.out.below hb)
  have Hd_7 := Lib.hid (Hd_6.out.below hb)
  have HB7 := Lib.hid (below_trans HB6.out hb)
  clear hb HB6 Hu_6 Hm_6 Hd_6
  go_wp2_with fail
  refine (check_is Hm_7.out (chkE_yes HNm.out.1)).mono ?_
  rintro e w8 ⟨rfl, hb⟩
  have Hu_8 := Lib.hid (Hu_7.out.below hb)
  have Hm_8 := Lib.hid (Hm_7.out.below hb)
  have Hd_8 := Lib.hid (Hd_7.out.below hb)
  have HB8 := Lib.hid (below_trans HB7.out hb)
  clear hb HB7 Hu_7 Hm_7 Hd_7
  go_wp2_with fail
  refine (check_is Hd_8.out (chkE_yes HNd.out.1)).mono ?_
  rintro e w9 ⟨rfl, hb⟩
  have Hu_9 := Lib.hid (Hu_8.out.below hb)
  have Hm_9 := Lib.hid (Hm_8.out.below hb)
  have Hd_9 := Lib.hid (Hd_8.out.below hb)
  have HB9 := Lib.hid (below_trans HB8.out hb)
  clear hb HB8 Hu_8 Hm_8 Hd_8
  go_wp2_with fail
  refine (has_is (Ha.out.below HB9.out) Hhsa.out (by omega) Hhp.out).mono ?_
  rintro e w10 ⟨rfl, hb⟩
  have Hu_10 := Lib.hid (Hu_9.out.below hb)
  have Hm_10 := Lib.hid (Hm_9.out.below hb)
  have Hd_10 := Lib.hid (Hd_9.out.below hb)
  have HB10 := Lib.hid (below_trans HB9.out hb)
  clear hb HB9 Hu_9 Hm_9 Hd_9
  go_wp2_with fail
  refine (has_is (Hb.out.below HB10.out) Hhsb.out (by omega) Hhq.out).mono ?_
  rintro e w11 ⟨rfl, hb⟩
  have Hu_11 := Lib.hid (Hu_10.out.below hb)
  have Hm_11 := Lib.hid (Hm_10.out.below hb)
  have Hd_11 := Lib.hid (Hd_10.out.below hb)
  have HB11 := Lib.hid (below_trans HB10.out hb)
  clear hb HB10 Hu_10 Hm_10 Hd_10
  have HMu := Lib.hid (made_mem HNu.out Hhp.out Hhq.out)
  have HMm := Lib.hid (made_mem HNm.out Hhp.out Hhq.out)
  have HMd := Lib.hid (made_mem HNd.out Hhp.out Hhq.out)
  cases p <;> cases q
  all_goals
    go_wp2_with fail
    refine (has_is Hu_11.out HNu.out.1 (by omega) HMu.out).mono ?_
    rintro e w12 ⟨rfl, hb⟩
    have Hu_12 := Lib.hid (Hu_11.out.below hb)
    have Hm_12 := Lib.hid (Hm_11.out.below hb)
    have Hd_12 := Lib.hid (Hd_11.out.below hb)
    have HB12 := Lib.hid (below_trans HB11.out hb)
    clear hb HB11 Hu_11 Hm_11 Hd_11
    go_wp2_with fail
    refine (has_is Hm_12.out HNm.out.1 (by omega) HMm.out).mono ?_
    rintro e w13 ⟨rfl, hb⟩
    have Hu_13 := Lib.hid (Hu_12.out.below hb)
    have Hm_13 := Lib.hid (Hm_12.out.below hb)
    have Hd_13 := Lib.hid (Hd_12.out.below hb)
    have HB13 := Lib.hid (below_trans HB12.out hb)
    clear hb HB12 Hu_12 Hm_12 Hd_12
    go_wp2_with fail
    refine (has_is Hd_13.out HNd.out.1 (by omega) HMd.out).mono ?_
    rintro e w14 ⟨rfl, hb⟩
    have Hu_14 := Lib.hid (Hu_13.out.below hb)
    have Hm_14 := Lib.hid (Hm_13.out.below hb)
    have Hd_14 := Lib.hid (Hd_13.out.below hb)
    have HB14 := Lib.hid (below_trans HB13.out hb)
    clear hb HB13 Hu_13 Hm_13 Hd_13
    go_wp2_with fail
    refine (awake_calls _).mono ?_
    rintro e w15 ⟨rfl, hb⟩
    have Hu_15 := Lib.hid (Hu_14.out.below hb)
    have Hm_15 := Lib.hid (Hm_14.out.below hb)
    have Hd_15 := Lib.hid (Hd_14.out.below hb)
    have HB15 := Lib.hid (below_trans HB14.out hb)
    clear hb HB14 Hu_14 Hm_14 Hd_14
    go_wp2
    go_ret
    exact ⟨rfl, HB15.out⟩
theorem means_walk {w : World} {va vb : Value} {a b : List R} {n : Int} (ha : RdR w va a) (hb : RdR w vb b) :
    Calls Try.prog 9 #[va, vb, .int .i64 n] w fun e w' => e = .returned (.bool true) ∧ RowKit.Below w.heap.size w w' := by
  by_cases hbig : 40 < a.length ∨ 40 < b.length
  · exact means_big ha hb (by simpa using hbig)
  · have hd : (decide (40 < a.length) || decide (40 < b.length)) = false := by simp; omega
    by_cases h1 : IsSet a
    · by_cases h2 : IsSet b
      · exact means_yes ha hb hd (by omega) (by omega) h1 h2 _ _ rfl rfl
      · exact means_no2 ha hb hd h1 h2
    · exact means_no1 ha hb hd h1
set_option maxHeartbeats 4000000 in
set_option maxRecDepth 100000 in
theorem counts_big {w : World} {va vb : Value} {a b : List R} (ha : RdR w va a) (hb : RdR w vb b) (hd : (decide (40 < a.length) || decide (40 < b.length)) = true) :
    Calls Try.prog 10 #[va, vb] w fun e w' => e = .returned (.bool true) ∧ RowKit.Below w.heap.size w w' := by
  have Ha := Lib.hid ha
  have Hb := Lib.hid hb
  have Hhd := Lib.hid hd
  obtain ⟨Aa, ca, rfl, _⟩ := ha
  obtain ⟨Ab, cb, rfl, _⟩ := hb
  clear hd
  go_enter Try.func10, Try.ntmps10
  have HB0 := Lib.hid (RowKit.Below.refl w.heap.size w)
  go_wp2_with fail
  have hb : RowKit.Below w.heap.size w (w.alloc (Obj.cells #[Value.slice Aa a.length ca, Value.slice Ab b.length cb] 22)) := (RowKit.Below.refl _ _).alloc (Nat.le_refl _) _
  have k0 : (w.alloc (Obj.cells #[Value.slice Aa a.length ca, Value.slice Ab b.length cb] 22)).cell? ⟨w.heap.size, 0, none⟩ = some (Value.slice Aa a.length ca) := by go_simp
  have k1 : (w.alloc (Obj.cells #[Value.slice Aa a.length ca, Value.slice Ab b.length cb] 22)).cell? ⟨w.heap.size, 1, none⟩ = some (Value.slice Ab b.length cb) := by go_simp
  generalize w.alloc (Obj.cells #[Value.slice Aa a.length ca, Value.slice Ab b.length cb] 22) = w1 at *
  have HB1 := Lib.hid (below_trans HB0.out hb)
  clear hb HB0
  go_wp2_with fail
  refine (many2 (Ha.out.below HB1.out) (Hb.out.below HB1.out) k0 k1).mono ?_
  rintro e _ ⟨rfl, rfl⟩
  rw [Hhd.out]
  clear k0 k1
  go_wp2_with fail
  refine (awake_calls _).mono ?_
  rintro e w2 ⟨rfl, hb⟩
  have HB2 := Lib.hid (below_trans HB1.out hb)
  clear hb HB1
  go_wp2
  go_ret
  exact ⟨rfl, HB2.out⟩
set_option maxHeartbeats 4000000 in
set_option maxRecDepth 100000 in
theorem counts_no1 {w : World} {va vb : Value} {a b : List R} (ha : RdR w va a) (hb : RdR w vb b) (hd : (decide (40 < a.length) || decide (40 < b.length)) = false) (hsa : ¬ IsSet a) :
    Calls Try.prog 10 #[va, vb] w fun e w' => e = .returned (.bool true) ∧ RowKit.Below w.heap.size w w' := by
  have Ha := Lib.hid ha
  have Hb := Lib.hid hb
  have Hhd := Lib.hid hd
  have Hhsa := Lib.hid hsa
  obtain ⟨Aa, ca, rfl, _⟩ := ha
  obtain ⟨Ab, cb, rfl, _⟩ := hb
  clear hd hsa
  go_enter Try.func10, Try.ntmps10
  have HB0 := Lib.hid (RowKit.Below.refl w.heap.size w)
  go_wp2_with fail
  have hb : RowKit.Below w.heap.size w (w.alloc (Obj.cells #[Value.slice Aa a.length ca, Value.slice Ab b.length cb] 22)) := (RowKit.Below.refl _ _).alloc (Nat.le_refl _) _
  have k0 : (w.alloc (Obj.cells #[Value.slice Aa a.length ca, Value.slice Ab b.length cb] 22)).cell? ⟨w.heap.size, 0, none⟩ = some (Value.slice Aa a.length ca) := by go_simp
  have k1 : (w.alloc (Obj.cells #[Value.slice Aa a.length ca, Value.slice Ab b.length cb] 22)).cell? ⟨w.heap.size, 1, none⟩ = some (Value.slice Ab b.length cb) := by go_simp
  generalize w.alloc (Obj.cells #[Value.slice Aa a.length ca, Value.slice Ab b.length cb] 22) = w1 at *
  have HB1 := Lib.hid (below_trans HB0.out hb)
  clear hb HB0
  go_wp2_with fail
  refine (many2 (Ha.out.below HB1.out) (Hb.out.below HB1.out) k0 k1).mono ?_
  rintro e _ ⟨rfl, rfl⟩
  rw [Hhd.out]
  clear k0 k1
  go_wp2_with fail
  refine (check_is (Ha.out.below HB1.out) (chkE_no Hhsa.out)).mono ?_
  rintro e w2 ⟨rfl, hb⟩
  have HB2 := Lib.hid (below_trans HB1.out hb)
  clear hb HB1
  go_wp2_with fail
  refine (awake_calls _).mono ?_
  rintro e w3 ⟨rfl, hb⟩
  have HB3 := Lib.hid (below_trans HB2.out hb)
  clear hb HB2
  go_wp2
  go_ret
  exact ⟨rfl, HB3.out⟩
set_option maxHeartbeats 4000000 in
set_option maxRecDepth 100000 in
theorem counts_no2 {w : World} {va vb : Value} {a b : List R} (ha : RdR w va a) (hb : RdR w vb b) (hd : (decide (40 < a.length) || decide (40 < b.length)) = false) (hsa : IsSet a) (hsb : ¬ IsSet b) :
    Calls Try.prog 10 #[va, vb] w fun e w' => e = .returned (.bool true) ∧ RowKit.Below w.heap.size w w' := by
  have Ha := Lib.hid ha
  have Hb := Lib.hid hb
  have Hhd := Lib.hid hd
  have Hhsa := Lib.hid hsa
  have Hhsb := Lib.hid hsb
  obtain ⟨Aa, ca, rfl, _⟩ := ha
  obtain ⟨Ab, cb, rfl, _⟩ := hb
  clear hd hsa hsb
  go_enter Try.func10, Try.ntmps10
  have HB0 := Lib.hid (RowKit.Below.refl w.heap.size w)
  go_wp2_with fail
  have hb : RowKit.Below w.heap.size w (w.alloc (Obj.cells #[Value.slice Aa a.length ca, Value.slice Ab b.length cb] 22)) := (RowKit.Below.refl _ _).alloc (Nat.le_refl _) _
  have k0 : (w.alloc (Obj.cells #[Value.slice Aa a.length ca, Value.slice Ab b.length cb] 22)).cell? ⟨w.heap.size, 0, none⟩ = some (Value.slice Aa a.length ca) := by go_simp
  have k1 : (w.alloc (Obj.cells #[Value.slice Aa a.length ca, Value.slice Ab b.length cb] 22)).cell? ⟨w.heap.size, 1, none⟩ = some (Value.slice Ab b.length cb) := by go_simp
  generalize w.alloc (Obj.cells #[Value.slice Aa a.length ca, Value.slice Ab b.length cb] 22) = w1 at *
  have HB1 := Lib.hid (below_trans HB0.out hb)
  clear hb HB0
  go_wp2_with fail
  refine (many2 (Ha.out.below HB1.out) (Hb.out.below HB1.out) k0 k1).mono ?_
  rintro e _ ⟨rfl, rfl⟩
  rw [Hhd.out]
  clear k0 k1
  go_wp2_with fail
  refine (check_is (Ha.out.below HB1.out) (chkE_yes Hhsa.out)).mono ?_
  rintro e w2 ⟨rfl, hb⟩
  have HB2 := Lib.hid (below_trans HB1.out hb)
  clear hb HB1
  go_wp2_with fail
  refine (check_is (Hb.out.below HB2.out) (chkE_no Hhsb.out)).mono ?_
  rintro e w3 ⟨rfl, hb⟩
  have HB3 := Lib.hid (below_trans HB2.out hb)
  clear hb HB2
  go_wp2_with fail
  refine (awake_calls _).mono ?_
  rintro e w4 ⟨rfl, hb⟩
  have HB4 := Lib.hid (below_trans HB3.out hb)
  clear hb HB3
  go_wp2
  go_ret
  exact ⟨rfl, HB4.out⟩
set_option maxHeartbeats 4000000 in
set_option maxRecDepth 100000 in
theorem counts_yes {w : World} {va vb : Value} {a b : List R} (ha : RdR w va a) (hb : RdR w vb b) (hd : (decide (40 < a.length) || decide (40 < b.length)) = false) (hl : a.length ≤ 40) (hl2 : b.length ≤ 40) (hsa : IsSet a) (hsb : IsSet b) :
    Calls Try.prog 10 #[va, vb] w fun e w' => e = .returned (.bool true) ∧ RowKit.Below w.heap.size w w' := by
  have Ha := Lib.hid ha
  have Hb := Lib.hid hb
  have Hhd := Lib.hid hd
  have Hhsa := Lib.hid hsa
  have Hhsb := Lib.hid hsb
  obtain ⟨Aa, ca, rfl, _⟩ := ha
  obtain ⟨Ab, cb, rfl, _⟩ := hb
  clear hd hsa hsb
  go_enter Try.func10, Try.ntmps10
  have HB0 := Lib.hid (RowKit.Below.refl w.heap.size w)
  go_wp2_with fail
  have hb : RowKit.Below w.heap.size w (w.alloc (Obj.cells #[Value.slice Aa a.length ca, Value.slice Ab b.length cb] 22)) := (RowKit.Below.refl _ _).alloc (Nat.le_refl _) _
  have k0 : (w.alloc (Obj.cells #[Value.slice Aa a.length ca, Value.slice Ab b.length cb] 22)).cell? ⟨w.heap.size, 0, none⟩ = some (Value.slice Aa a.length ca) := by go_simp
  have k1 : (w.alloc (Obj.cells #[Value.slice Aa a.length ca, Value.slice Ab b.length cb] 22)).cell? ⟨w.heap.size, 1, none⟩ = some (Value.slice Ab b.length cb) := by go_simp
  generalize w.alloc (Obj.cells #[Value.slice Aa a.length ca, Value.slice Ab b.length cb] 22) = w1 at *
  have HB1 := Lib.hid (below_trans HB0.out hb)
  clear hb HB0
  go_wp2_with fail
  refine (many2 (Ha.out.below HB1.out) (Hb.out.below HB1.out) k0 k1).mono ?_
  rintro e _ ⟨rfl, rfl⟩
  rw [Hhd.out]
  clear k0 k1
  go_wp2_with fail
  refine (check_is (Ha.out.below HB1.out) (chkE_yes Hhsa.out)).mono ?_
  rintro e w2 ⟨rfl, hb⟩
  have HB2 := Lib.hid (below_trans HB1.out hb)
  clear hb HB1
  go_wp2_with fail
  refine (check_is (Hb.out.below HB2.out) (chkE_yes Hhsb.out)).mono ?_
  rintro e w3 ⟨rfl, hb⟩
  have HB3 := Lib.hid (below_trans HB2.out hb)
  clear hb HB2
  go_wp2_with fail
  refine (union_yes (Ha.out.below HB3.out) (Hb.out.below HB3.out) Hhsa.out Hhsb.out (by omega) (by omega)).mono ?_
  rintro e w4 ⟨zu, su, rfl, hn, hr, hb⟩
  have HNu := Lib.hid hn
  have hlu : su.length ≤ 2 * (a.length + b.length) := hn.2.2
  clear hn
  have Hu_4 := Lib.hid hr
  have HB4 := Lib.hid (below_trans HB3.out hb)
  clear hb HB3 hr
  go_wp2_with fail
  refine (meet_yes (Ha.out.below HB4.out) (Hb.out.below HB4.out) Hhsa.out Hhsb.out (by omega) (by omega)).mono ?_
  rintro e w5 ⟨zm, sm, rfl, hn, hr, hb⟩
  have HNm := Lib.hid hn
  have hlm : sm.length ≤ 2 * (a.length + b.length) := hn.2.2
  clear hn
  have Hu_5 := Lib.hid (Hu_4.out.below hb)
  have Hm_5 := Lib.hid hr
  have HB5 := Lib.hid (below_trans HB4.out hb)
  clear hb HB4 Hu_4 hr
  go_wp2_with fail
  refine (minus_yes (Ha.out.below HB5.out) (Hb.out.below HB5.out) Hhsa.out Hhsb.out (by omega) (by omega)).mono ?_
  rintro e w6 ⟨zd, sd, rfl, hn, hr, hb⟩
  have HNd := Lib.hid hn
  have hld : sd.length ≤ 2 * (a.length + b.length) := hn.2.2
  clear hn
  have Hu_6 := Lib.hid (Hu_5.out.below hb)
  have Hm_6 := Lib.hid (Hm_5.out.below hb)
  have Hd_6 := Lib.hid hr
  have HB6 := Lib.hid (below_trans HB5.out hb)
  clear hb HB5 Hu_5 Hm_5 hr
  obtain ⟨qx, hqx⟩ : ∃ qx, countR a = qx := ⟨_, rfl⟩
  obtain ⟨lox, upx⟩ := countR_bound (l := a) Hhsa.out.1
  rw [hqx] at lox upx
  have Hqx := Lib.hid hqx
  obtain ⟨qy, hqy⟩ : ∃ qy, countR b = qy := ⟨_, rfl⟩
  obtain ⟨loy, upy⟩ := countR_bound (l := b) Hhsb.out.1
  rw [hqy] at loy upy
  have Hqy := Lib.hid hqy
  obtain ⟨qz, hqz⟩ : ∃ qz, countR su = qz := ⟨_, rfl⟩
  obtain ⟨loz, upz⟩ := countR_bound (l := su) HNu.out.1.1
  rw [hqz] at loz upz
  have Hqz := Lib.hid hqz
  obtain ⟨qv, hqv⟩ : ∃ qv, countR sm = qv := ⟨_, rfl⟩
  obtain ⟨lov, upv⟩ := countR_bound (l := sm) HNm.out.1.1
  rw [hqv] at lov upv
  have Hqv := Lib.hid hqv
  obtain ⟨qd, hqd⟩ : ∃ qd, countR sd = qd := ⟨_, rfl⟩
  obtain ⟨lod, upd⟩ := countR_bound (l := sd) HNd.out.1.1
  rw [hqd] at lod upd
  have Hqd := Lib.hid hqd
  have hp1 := parts_len Hhsa.out HNm.out HNd.out
  have hp2 := filter_comm_len Hhsa.out Hhsb.out HNu.out HNm.out
  rw [hqx, hqv, hqd] at hp1
  rw [hqz, hqx, hqy, hqv] at hp2
  have bx : qx ≤ 1000000000000 := by omega
  have by_ : qy ≤ 1000000000000 := by omega
  have bz : qz ≤ 1000000000000 := by omega
  have bv : qv ≤ 1000000000000 := by omega
  have bd : qd ≤ 1000000000000 := by omega
  have t1 : (qx == qv + qd) = true := by simp [hp1]
  have t2 : (qz == qx + qy - qv) = true := by simp [hp2]
  clear hqx hqy hqz hqv hqd hp1 hp2 upx upy upz upv upd
  go_wp2_with fail
  refine (count_is (Ha.out.below HB6.out) Hhsa.out (by omega) Hqx.out).mono ?_
  rintro e w7 ⟨rfl, hb⟩
  have Hu_7 := Lib.hid (Hu_6.out.below hb)
  have Hm_7 := Lib.hid (Hm_6.out.below hb)
  have Hd_7 := Lib.hid (Hd_6.out.below hb)
  have HB7 := Lib.hid (below_trans HB6.out hb)
  clear hb HB6 Hu_6 Hm_6 Hd_6
  go_wp2_with fail
  refine (count_is (Hb.out.below HB7.out) Hhsb.out (by omega) Hqy.out).mono ?_
  rintro e w8 ⟨rfl, hb⟩
  have Hu_8 := Lib.hid (Hu_7.out.below hb)
  have Hm_8 := Lib.hid (Hm_7.out.below hb)
  have Hd_8 := Lib.hid (Hd_7.out.below hb)
  have HB8 := Lib.hid (below_trans HB7.out hb)
  clear hb HB7 Hu_7 Hm_7 Hd_7
  go_wp2_with fail
  refine (count_is Hu_8.out HNu.out.1 (by omega) Hqz.out).mono ?_
  rintro e w9 ⟨rfl, hb⟩
  have Hu_9 := Lib.hid (Hu_8.out.below hb)
  have Hm_9 := Lib.hid (Hm_8.out.below hb)
  have Hd_9 := Lib.hid (Hd_8.out.below hb)
  have HB9 := Lib.hid (below_trans HB8.out hb)
  clear hb HB8 Hu_8 Hm_8 Hd_8
  go_wp2_with fail
  refine (count_is Hm_9.out HNm.out.1 (by omega) Hqv.out).mono ?_
  rintro e w10 ⟨rfl, hb⟩
  have Hu_10 := Lib.hid (Hu_9.out.below hb)
  have Hm_10 := Lib.hid (Hm_9.out.below hb)
  have Hd_10 := Lib.hid (Hd_9.out.below hb)
  have HB10 := Lib.hid (below_trans HB9.out hb)
  clear hb HB9 Hu_9 Hm_9 Hd_9
  go_wp2_with fail
  refine (count_is Hd_10.out HNd.out.1 (by omega) Hqd.out).mono ?_
  rintro e w11 ⟨rfl, hb⟩
  have Hu_11 := Lib.hid (Hu_10.out.below hb)
  have Hm_11 := Lib.hid (Hm_10.out.below hb)
  have Hd_11 := Lib.hid (Hd_10.out.below hb)
  have HB11 := Lib.hid (below_trans HB10.out hb)
  clear hb HB10 Hu_10 Hm_10 Hd_10
  go_wp2_with fail
  refine (awake_calls _).mono ?_
  rintro e w12 ⟨rfl, hb⟩
  have Hu_12 := Lib.hid (Hu_11.out.below hb)
  have Hm_12 := Lib.hid (Hm_11.out.below hb)
  have Hd_12 := Lib.hid (Hd_11.out.below hb)
  have HB12 := Lib.hid (below_trans HB11.out hb)
  clear hb HB11 Hu_11 Hm_11 Hd_11
  go_wp2
  go_ret
  exact ⟨rfl, HB12.out⟩
theorem counts_walk {w : World} {va vb : Value} {a b : List R} (ha : RdR w va a) (hb : RdR w vb b) :
    Calls Try.prog 10 #[va, vb] w fun e w' => e = .returned (.bool true) ∧ RowKit.Below w.heap.size w w' := by
  by_cases hbig : 40 < a.length ∨ 40 < b.length
  · exact counts_big ha hb (by simpa using hbig)
  · have hd : (decide (40 < a.length) || decide (40 < b.length)) = false := by simp; omega
    by_cases h1 : IsSet a
    · by_cases h2 : IsSet b
      · exact counts_yes ha hb hd (by omega) (by omega) h1 h2
      · exact counts_no2 ha hb hd h1 h2
    · exact counts_no1 ha hb hd h1
end Go.Proofs.Ytlbfkcgejpboeaa.Rs
