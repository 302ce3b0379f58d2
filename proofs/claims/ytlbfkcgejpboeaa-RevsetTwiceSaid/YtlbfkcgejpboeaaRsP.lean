/-
  The laws RevsetNormalizes and RevsetCombines, walked.
-/
import Derived.Test.YtlbfkcgejpboeaaRsO
namespace Go.Proofs.Ytlbfkcgejpboeaa.Rs
open Go.RowKit Go.Proofs Go.Sort
set_option linter.unusedVariables false
set_option linter.unusedSimpArgs false
set_option linter.unusedSectionVars false

theorem norm_made {rs s t : List R} (h : Norm rs s) (k : Made 0 rs [] t) : s = t :=
  IsSet.ext h.1 k.1 fun n => by rw [h.2.1, k.2.1]; unfold op3; simp [memB_iff]; rw [← memB_iff]; simp [memB]
theorem made_made {k : Nat} {a b s t : List R} (h : Made k a b s) (g : Made k a b t) : s = t :=
  IsSet.ext h.1 g.1 fun n => by rw [h.2.1, g.2.1]
theorem same_is {w : World} {v u : Value} {rs qs : List R} (h : RdR w v rs) (hq : RdR w u qs) (e0 : rs = qs) :
    Calls Try.prog 14 #[v, u] w fun e w' => e = .returned (.bool true) ∧ RowKit.Below w.heap.size w w' := by
  have := same_calls h hq
  rwa [decide_eq_true e0] at this
theorem eq_is {w : World} {v u : Value} {rs qs : List R} (h : RdR w v rs) (hq : RdR w u qs) (e0 : rs = qs) :
    Calls Try.prog 24 #[v, u] w fun e w' => e = .returned (.bool true) ∧ RowKit.Below w.heap.size w w' := by
  have := eq_calls h hq
  rwa [decide_eq_true e0] at this
theorem has_is {w : World} {v : Value} {rs : List R} {n : Int} {b : Bool} (h : RdR w v rs) (hs : IsSet rs) (hl : rs.length ≤ 1000000) (hb : memB rs n = b) :
    Calls Try.prog 18 #[v, .int .i64 n] w fun e w' => e = .returned (.bool b) ∧ RowKit.Below w.heap.size w w' := by
  have := has_calls (n := n) h hl
  rwa [decide_eq_true hs, Bool.true_and, hb] at this
set_option maxHeartbeats 4000000 in
set_option maxRecDepth 100000 in
theorem normalizes_big {w : World} {va : Value} {a : List R} (ha : RdR w va a) (hd : (decide (40 < a.length)) = true) :
    Calls Try.prog 6 #[va] w fun e w' => e = .returned (.bool true) ∧ RowKit.Below w.heap.size w w' := by
  have Ha := Lib.hid ha
  have Hhd := Lib.hid hd
  obtain ⟨Aa, ca, rfl, _⟩ := ha
  clear hd
  go_enter Try.func6, Try.ntmps6
  have HB0 := Lib.hid (RowKit.Below.refl w.heap.size w)
  go_wp2_with fail
  have hb : RowKit.Below w.heap.size w (w.alloc (Obj.cells #[Value.slice Aa a.length ca] 22)) := (RowKit.Below.refl _ _).alloc (Nat.le_refl _) _
  have k0 : (w.alloc (Obj.cells #[Value.slice Aa a.length ca] 22)).cell? ⟨w.heap.size, 0, none⟩ = some (Value.slice Aa a.length ca) := by go_simp
  generalize w.alloc (Obj.cells #[Value.slice Aa a.length ca] 22) = w1 at *
  have HB1 := Lib.hid (below_trans HB0.out hb)
  clear hb HB0
  go_wp2_with fail
  refine (many1 (Ha.out.below HB1.out) k0).mono ?_
  rintro e _ ⟨rfl, rfl⟩
  rw [Hhd.out]
  clear k0
  go_wp2_with fail
  refine (awake_calls _).mono ?_
  rintro e w2 ⟨rfl, hb⟩
  have HB2 := Lib.hid (below_trans HB1.out hb)
  clear hb HB1
  go_wp2
  go_ret
  exact ⟨rfl, HB2.out⟩
set_option maxHeartbeats 4000000 in
set_option maxRecDepth 100000 in
theorem normalizes_yes {w : World} {va : Value} {a : List R} (ha : RdR w va a) (hd : (decide (40 < a.length)) = false) (hl : a.length ≤ 40) (hs : ∀ r ∈ a, Sound r) :
    Calls Try.prog 6 #[va] w fun e w' => e = .returned (.bool true) ∧ RowKit.Below w.heap.size w w' := by
  have Ha := Lib.hid ha
  have Hhd := Lib.hid hd
  have Hhs := Lib.hid hs
  obtain ⟨Aa, ca, rfl, _⟩ := ha
  clear hd hs
  go_enter Try.func6, Try.ntmps6
  have HB0 := Lib.hid (RowKit.Below.refl w.heap.size w)
  go_wp2_with fail
  have hb : RowKit.Below w.heap.size w (w.alloc (Obj.cells #[Value.slice Aa a.length ca] 22)) := (RowKit.Below.refl _ _).alloc (Nat.le_refl _) _
  have k0 : (w.alloc (Obj.cells #[Value.slice Aa a.length ca] 22)).cell? ⟨w.heap.size, 0, none⟩ = some (Value.slice Aa a.length ca) := by go_simp
  generalize w.alloc (Obj.cells #[Value.slice Aa a.length ca] 22) = w1 at *
  have HB1 := Lib.hid (below_trans HB0.out hb)
  clear hb HB0
  go_wp2_with fail
  refine (many1 (Ha.out.below HB1.out) k0).mono ?_
  rintro e _ ⟨rfl, rfl⟩
  rw [Hhd.out]
  clear k0
  go_wp2_with (first
    | (at_builtin; refine wpList_append_R w1.heap.size rfl (.const (.slice none 0 0)) (.tmp 12) rfl _ _ [] a rfl rfl (own_nil _ _ _ _) (Ha.out.below HB1.out) (Nat.le_refl _) (by simp; omega) ?_; intro v2 w2 ho hg; have HO := Lib.hid ho; have HG := Lib.hid (below_grown (own_nil w1 w1.heap.size 29 2) (Nat.le_refl _) hg); clear ho hg; obtain ⟨A2, c2, he2⟩ := own_form HO.out; subst he2)
    | fail)
  have hb := HG.out
  have hwas := RdR.own HO.out
  rw [List.nil_append] at hwas
  clear HO HG
  have HWas_2 := Lib.hid hwas
  have HB2 := Lib.hid (below_trans HB1.out hb)
  clear hb HB1 hwas
  go_wp2_with fail
  refine (normalize_yes (Ha.out.below HB2.out) Hhs.out (by omega)).mono ?_
  rintro e w3 ⟨z, s, rfl, hn, hr, hb⟩
  have HN := Lib.hid hn
  clear hn
  have HWas_3 := Lib.hid (HWas_2.out.below hb)
  have HZ_3 := Lib.hid hr
  have HB3 := Lib.hid (below_trans HB2.out hb)
  clear hb HB2 HWas_2 hr
  go_wp2_with fail
  refine (rnormalize_yes (Ha.out.below HB3.out) Hhs.out (by omega)).mono ?_
  rintro e w4 ⟨y, t, rfl, hm, hr, hb⟩
  have he := norm_made HN.out hm
  subst he
  clear hm
  have HWas_4 := Lib.hid (HWas_3.out.below hb)
  have HZ_4 := Lib.hid (HZ_3.out.below hb)
  have HY_4 := Lib.hid hr
  have HB4 := Lib.hid (below_trans HB3.out hb)
  clear hb HB3 HWas_3 HZ_3 hr
  go_wp2_with fail
  refine (same_is HZ_4.out HY_4.out rfl).mono ?_
  rintro e w5 ⟨rfl, hb⟩
  have HWas_5 := Lib.hid (HWas_4.out.below hb)
  have HZ_5 := Lib.hid (HZ_4.out.below hb)
  have HY_5 := Lib.hid (HY_4.out.below hb)
  have HB5 := Lib.hid (below_trans HB4.out hb)
  clear hb HB4 HWas_4 HZ_4 HY_4
  clear HZ_5 HY_5
  obtain ⟨e0, he0⟩ : ∃ e0, chkE a = e0 := ⟨_, rfl⟩
  have He0 := Lib.hid he0
  clear he0
  go_wp2_with fail
  refine (check_is (Ha.out.below HB5.out) He0.out).mono ?_
  rintro e w6 ⟨rfl, hb⟩
  have HWas_6 := Lib.hid (HWas_5.out.below hb)
  have HB6 := Lib.hid (below_trans HB5.out hb)
  clear hb HB5 HWas_5
  go_wp2_with fail
  refine (rcheck_is (Ha.out.below HB6.out) He0.out).mono ?_
  rintro e w7 ⟨rfl, hb⟩
  have HWas_7 := Lib.hid (HWas_6.out.below hb)
  have HB7 := Lib.hid (below_trans HB6.out hb)
  clear hb HB6 HWas_6
  go_wp2_with fail
  refine (same_is (Ha.out.below HB7.out) HWas_7.out rfl).mono ?_
  rintro e w8 ⟨rfl, hb⟩
  have HWas_8 := Lib.hid (HWas_7.out.below hb)
  have HB8 := Lib.hid (below_trans HB7.out hb)
  clear hb HB7 HWas_7
  go_wp2_with fail
  refine (awake_calls _).mono ?_
  rintro e w9 ⟨rfl, hb⟩
  have HWas_9 := Lib.hid (HWas_8.out.below hb)
  have HB9 := Lib.hid (below_trans HB8.out hb)
  clear hb HB8 HWas_8
  go_wp2
  go_ret
  exact ⟨rfl, HB9.out⟩
set_option maxHeartbeats 4000000 in
set_option maxRecDepth 100000 in
theorem normalizes_no {w : World} {va : Value} {a : List R} (ha : RdR w va a) (hd : (decide (40 < a.length)) = false) (hl : a.length ≤ 40) (hs : ¬ ∀ r ∈ a, Sound r) :
    Calls Try.prog 6 #[va] w fun e w' => e = .returned (.bool true) ∧ RowKit.Below w.heap.size w w' := by
  have Ha := Lib.hid ha
  have Hhd := Lib.hid hd
  have Hhs := Lib.hid hs
  obtain ⟨Aa, ca, rfl, _⟩ := ha
  clear hd hs
  go_enter Try.func6, Try.ntmps6
  have HB0 := Lib.hid (RowKit.Below.refl w.heap.size w)
  go_wp2_with fail
  have hb : RowKit.Below w.heap.size w (w.alloc (Obj.cells #[Value.slice Aa a.length ca] 22)) := (RowKit.Below.refl _ _).alloc (Nat.le_refl _) _
  have k0 : (w.alloc (Obj.cells #[Value.slice Aa a.length ca] 22)).cell? ⟨w.heap.size, 0, none⟩ = some (Value.slice Aa a.length ca) := by go_simp
  generalize w.alloc (Obj.cells #[Value.slice Aa a.length ca] 22) = w1 at *
  have HB1 := Lib.hid (below_trans HB0.out hb)
  clear hb HB0
  go_wp2_with fail
  refine (many1 (Ha.out.below HB1.out) k0).mono ?_
  rintro e _ ⟨rfl, rfl⟩
  rw [Hhd.out]
  clear k0
  go_wp2_with (first
    | (at_builtin; refine wpList_append_R w1.heap.size rfl (.const (.slice none 0 0)) (.tmp 12) rfl _ _ [] a rfl rfl (own_nil _ _ _ _) (Ha.out.below HB1.out) (Nat.le_refl _) (by simp; omega) ?_; intro v2 w2 ho hg; have HO := Lib.hid ho; have HG := Lib.hid (below_grown (own_nil w1 w1.heap.size 29 2) (Nat.le_refl _) hg); clear ho hg; obtain ⟨A2, c2, he2⟩ := own_form HO.out; subst he2)
    | fail)
  have hb := HG.out
  have hwas := RdR.own HO.out
  rw [List.nil_append] at hwas
  clear HO HG
  have HWas_2 := Lib.hid hwas
  have HB2 := Lib.hid (below_trans HB1.out hb)
  clear hb HB1 hwas
  go_wp2_with fail
  refine (normalize_no (Ha.out.below HB2.out) Hhs.out).mono ?_
  rintro e w3 ⟨rfl, hb⟩
  have HWas_3 := Lib.hid (HWas_2.out.below hb)
  have HB3 := Lib.hid (below_trans HB2.out hb)
  clear hb HB2 HWas_2
  go_wp2_with fail
  refine (rnormalize_no (Ha.out.below HB3.out) Hhs.out).mono ?_
  rintro e w4 ⟨rfl, hb⟩
  have HWas_4 := Lib.hid (HWas_3.out.below hb)
  have HB4 := Lib.hid (below_trans HB3.out hb)
  clear hb HB3 HWas_3
  go_wp2_with fail
  refine (same_is (RdR.nil _) (RdR.nil _) rfl).mono ?_
  rintro e w5 ⟨rfl, hb⟩
  have HWas_5 := Lib.hid (HWas_4.out.below hb)
  have HB5 := Lib.hid (below_trans HB4.out hb)
  clear hb HB4 HWas_4
  obtain ⟨e0, he0⟩ : ∃ e0, chkE a = e0 := ⟨_, rfl⟩
  have He0 := Lib.hid he0
  clear he0
  go_wp2_with fail
  refine (check_is (Ha.out.below HB5.out) He0.out).mono ?_
  rintro e w6 ⟨rfl, hb⟩
  have HWas_6 := Lib.hid (HWas_5.out.below hb)
  have HB6 := Lib.hid (below_trans HB5.out hb)
  clear hb HB5 HWas_5
  go_wp2_with fail
  refine (rcheck_is (Ha.out.below HB6.out) He0.out).mono ?_
  rintro e w7 ⟨rfl, hb⟩
  have HWas_7 := Lib.hid (HWas_6.out.below hb)
  have HB7 := Lib.hid (below_trans HB6.out hb)
  clear hb HB6 HWas_6
  go_wp2_with fail
  refine (same_is (Ha.out.below HB7.out) HWas_7.out rfl).mono ?_
  rintro e w8 ⟨rfl, hb⟩
  have HWas_8 := Lib.hid (HWas_7.out.below hb)
  have HB8 := Lib.hid (below_trans HB7.out hb)
  clear hb HB7 HWas_7
  go_wp2_with fail
  refine (awake_calls _).mono ?_
  rintro e w9 ⟨rfl, hb⟩
  have HWas_9 := Lib.hid (HWas_8.out.below hb)
  have HB9 := Lib.hid (below_trans HB8.out hb)
  clear hb HB8 HWas_8
  go_wp2
  go_ret
  exact ⟨rfl, HB9.out⟩
theorem normalizes_walk {w : World} {va : Value} {a : List R} (ha : RdR w va a) :
    Calls Try.prog 6 #[va] w fun e w' => e = .returned (.bool true) ∧ RowKit.Below w.heap.size w w' := by
  by_cases hbig : 40 < a.length
  · exact normalizes_big ha (by simpa using hbig)
  · have hd : decide (40 < a.length) = false := decide_eq_false hbig
    by_cases hs : ∀ r ∈ a, Sound r
    · exact normalizes_yes ha hd (by omega) hs
    · exact normalizes_no ha hd (by omega) hs
set_option maxHeartbeats 4000000 in
set_option maxRecDepth 100000 in
theorem combines_big {w : World} {va vb : Value} {a b : List R} (ha : RdR w va a) (hb : RdR w vb b) (hd : (decide (40 < a.length) || decide (40 < b.length)) = true) :
    Calls Try.prog 8 #[va, vb] w fun e w' => e = .returned (.bool true) ∧ RowKit.Below w.heap.size w w' := by
  have Ha := Lib.hid ha
  have Hb := Lib.hid hb
  have Hhd := Lib.hid hd
  obtain ⟨Aa, ca, rfl, _⟩ := ha
  obtain ⟨Ab, cb, rfl, _⟩ := hb
  clear hd
  go_enter Try.func8, Try.ntmps8
  have HB0 := Lib.hid (RowKit.Below.refl w.heap.size w)
  go_wp2_with fail
  have hb : RowKit.Below w.heap.size w (w.alloc (Obj.cells #[Value.slice Aa a.length ca, Value.slice Ab b.length cb] 22)) := (RowKit.Below.refl _ _).alloc (Nat.le_refl _) _
  have k0 : (w.alloc (Obj.cells #[Value.slice Aa a.length ca, Value.slice Ab b.length cb] 22)).cell? ⟨w.heap.size, 0, none⟩ = some (Value.slice Aa a.length ca) := by go_simp
  have k1 : (w.alloc (Obj.cells #[Value.slice Aa a.length ca, Value.slice Ab b.length cb] 22)).cell? ⟨w.heap.size, 1, none⟩ = some (Value.slice Ab b.length cb) := by go_simp
  generalize w.alloc (Obj.cells #[Value.slice Aa a.length ca, Value.slice Ab b.length cb] 22) = w1 at *
  have HB1 := Lib.hid (below_trans HB0.out hb)
  clear hb HB0
  go_wp2_with fail
  refine (many2 (Ha.out.below HB1.out) (Hb.out.below HB1.out) k0 k1).mono ?_
  rintro e _ ⟨rfl, rfl⟩
  rw [Hhd.out]
  clear k0 k1
  go_wp2_with fail
  refine (awake_calls _).mono ?_
  rintro e w2 ⟨rfl, hb⟩
  have HB2 := Lib.hid (below_trans HB1.out hb)
  clear hb HB1
  go_wp2
  go_ret
  exact ⟨rfl, HB2.out⟩
set_option maxHeartbeats 4000000 in
set_option maxRecDepth 100000 in
theorem combines_yes {w : World} {va vb : Value} {a b : List R} (ha : RdR w va a) (hb : RdR w vb b) (hd : (decide (40 < a.length) || decide (40 < b.length)) = false) (hl : a.length ≤ 40) (hl2 : b.length ≤ 40) (hs : IsSet a) (hs2 : IsSet b) :
    Calls Try.prog 8 #[va, vb] w fun e w' => e = .returned (.bool true) ∧ RowKit.Below w.heap.size w w' := by
  have Ha := Lib.hid ha
  have Hb := Lib.hid hb
  have Hhd := Lib.hid hd
  have Hhs := Lib.hid hs
  have Hhs2 := Lib.hid hs2
  obtain ⟨Aa, ca, rfl, _⟩ := ha
  obtain ⟨Ab, cb, rfl, _⟩ := hb
  clear hd hs hs2
  go_enter Try.func8, Try.ntmps8
  have HB0 := Lib.hid (RowKit.Below.refl w.heap.size w)
  go_wp2_with fail
  have hb : RowKit.Below w.heap.size w (w.alloc (Obj.cells #[Value.slice Aa a.length ca, Value.slice Ab b.length cb] 22)) := (RowKit.Below.refl _ _).alloc (Nat.le_refl _) _
  have k0 : (w.alloc (Obj.cells #[Value.slice Aa a.length ca, Value.slice Ab b.length cb] 22)).cell? ⟨w.heap.size, 0, none⟩ = some (Value.slice Aa a.length ca) := by go_simp
  have k1 : (w.alloc (Obj.cells #[Value.slice Aa a.length ca, Value.slice Ab b.length cb] 22)).cell? ⟨w.heap.size, 1, none⟩ = some (Value.slice Ab b.length cb) := by go_simp
  generalize w.alloc (Obj.cells #[Value.slice Aa a.length ca, Value.slice Ab b.length cb] 22) = w1 at *
  have HB1 := Lib.hid (below_trans HB0.out hb)
  clear hb HB0
  go_wp2_with fail
  refine (many2 (Ha.out.below HB1.out) (Hb.out.below HB1.out) k0 k1).mono ?_
  rintro e _ ⟨rfl, rfl⟩
  rw [Hhd.out]
  clear k0 k1
  go_wp2_with fail
  refine (union_yes (Ha.out.below HB1.out) (Hb.out.below HB1.out) Hhs.out Hhs2.out (by omega) (by omega)).mono ?_
  rintro e w2 ⟨z0, s0, rfl, hn, hr, hb⟩
  have HN0 := Lib.hid hn
  clear hn
  have HZ_2 := Lib.hid hr
  have HB2 := Lib.hid (below_trans HB1.out hb)
  clear hb HB1 hr
  go_wp2_with fail
  refine (both_yes (k := 0) (by omega) (by omega) (Ha.out.below HB2.out) (Hb.out.below HB2.out) Hhs.out Hhs2.out (by omega) (by omega)).mono ?_
  rintro e w3 ⟨y0, t0, rfl, hm, hr, hb⟩
  have he := made_made HN0.out hm
  subst he
  clear hm
  have HZ_3 := Lib.hid (HZ_2.out.below hb)
  have HY_3 := Lib.hid hr
  have HB3 := Lib.hid (below_trans HB2.out hb)
  clear hb HB2 HZ_2 hr
  go_wp2_with fail
  refine (same_is HZ_3.out HY_3.out rfl).mono ?_
  rintro e w4 ⟨rfl, hb⟩
  have HZ_4 := Lib.hid (HZ_3.out.below hb)
  have HY_4 := Lib.hid (HY_3.out.below hb)
  have HB4 := Lib.hid (below_trans HB3.out hb)
  clear hb HB3 HZ_3 HY_3
  clear HZ_4 HY_4
  go_wp2_with fail
  refine (meet_yes (Ha.out.below HB4.out) (Hb.out.below HB4.out) Hhs.out Hhs2.out (by omega) (by omega)).mono ?_
  rintro e w5 ⟨z1, s1, rfl, hn, hr, hb⟩
  have HN1 := Lib.hid hn
  clear hn
  have HZ_5 := Lib.hid hr
  have HB5 := Lib.hid (below_trans HB4.out hb)
  clear hb HB4 hr
  go_wp2_with fail
  refine (both_yes (k := 1) (by omega) (by omega) (Ha.out.below HB5.out) (Hb.out.below HB5.out) Hhs.out Hhs2.out (by omega) (by omega)).mono ?_
  rintro e w6 ⟨y1, t1, rfl, hm, hr, hb⟩
  have he := made_made HN1.out hm
  subst he
  clear hm
  have HZ_6 := Lib.hid (HZ_5.out.below hb)
  have HY_6 := Lib.hid hr
  have HB6 := Lib.hid (below_trans HB5.out hb)
  clear hb HB5 HZ_5 hr
  go_wp2_with fail
  refine (same_is HZ_6.out HY_6.out rfl).mono ?_
  rintro e w7 ⟨rfl, hb⟩
  have HZ_7 := Lib.hid (HZ_6.out.below hb)
  have HY_7 := Lib.hid (HY_6.out.below hb)
  have HB7 := Lib.hid (below_trans HB6.out hb)
  clear hb HB6 HZ_6 HY_6
  clear HZ_7 HY_7
  go_wp2_with fail
  refine (minus_yes (Ha.out.below HB7.out) (Hb.out.below HB7.out) Hhs.out Hhs2.out (by omega) (by omega)).mono ?_
  rintro e w8 ⟨z2, s2, rfl, hn, hr, hb⟩
  have HN2 := Lib.hid hn
  clear hn
  have HZ_8 := Lib.hid hr
  have HB8 := Lib.hid (below_trans HB7.out hb)
  clear hb HB7 hr
  go_wp2_with fail
  refine (both_yes (k := 2) (by omega) (by omega) (Ha.out.below HB8.out) (Hb.out.below HB8.out) Hhs.out Hhs2.out (by omega) (by omega)).mono ?_
  rintro e w9 ⟨y2, t2, rfl, hm, hr, hb⟩
  have he := made_made HN2.out hm
  subst he
  clear hm
  have HZ_9 := Lib.hid (HZ_8.out.below hb)
  have HY_9 := Lib.hid hr
  have HB9 := Lib.hid (below_trans HB8.out hb)
  clear hb HB8 HZ_8 hr
  go_wp2_with fail
  refine (same_is HZ_9.out HY_9.out rfl).mono ?_
  rintro e w10 ⟨rfl, hb⟩
  have HZ_10 := Lib.hid (HZ_9.out.below hb)
  have HY_10 := Lib.hid (HY_9.out.below hb)
  have HB10 := Lib.hid (below_trans HB9.out hb)
  clear hb HB9 HZ_9 HY_9
  clear HZ_10 HY_10
  go_wp2_with fail
  refine (awake_calls _).mono ?_
  rintro e w11 ⟨rfl, hb⟩
  have HB11 := Lib.hid (below_trans HB10.out hb)
  clear hb HB10
  go_wp2
  go_ret
  exact ⟨rfl, HB11.out⟩
set_option maxHeartbeats 4000000 in
set_option maxRecDepth 100000 in
theorem combines_no {w : World} {va vb : Value} {a b : List R} (ha : RdR w va a) (hb : RdR w vb b) (hd : (decide (40 < a.length) || decide (40 < b.length)) = false) (hl : a.length ≤ 40) (hl2 : b.length ≤ 40) (hs : ¬ (IsSet a ∧ IsSet b)) :
    Calls Try.prog 8 #[va, vb] w fun e w' => e = .returned (.bool true) ∧ RowKit.Below w.heap.size w w' := by
  have Ha := Lib.hid ha
  have Hb := Lib.hid hb
  have Hhd := Lib.hid hd
  have Hhs := Lib.hid hs
  obtain ⟨Aa, ca, rfl, _⟩ := ha
  obtain ⟨Ab, cb, rfl, _⟩ := hb
  clear hd hs
  go_enter Try.func8, Try.ntmps8
  have HB0 := Lib.hid (RowKit.Below.refl w.heap.size w)
  go_wp2_with fail
  have hb : RowKit.Below w.heap.size w (w.alloc (Obj.cells #[Value.slice Aa a.length ca, Value.slice Ab b.length cb] 22)) := (RowKit.Below.refl _ _).alloc (Nat.le_refl _) _
  have k0 : (w.alloc (Obj.cells #[Value.slice Aa a.length ca, Value.slice Ab b.length cb] 22)).cell? ⟨w.heap.size, 0, none⟩ = some (Value.slice Aa a.length ca) := by go_simp
  have k1 : (w.alloc (Obj.cells #[Value.slice Aa a.length ca, Value.slice Ab b.length cb] 22)).cell? ⟨w.heap.size, 1, none⟩ = some (Value.slice Ab b.length cb) := by go_simp
  generalize w.alloc (Obj.cells #[Value.slice Aa a.length ca, Value.slice Ab b.length cb] 22) = w1 at *
  have HB1 := Lib.hid (below_trans HB0.out hb)
  clear hb HB0
  go_wp2_with fail
  refine (many2 (Ha.out.below HB1.out) (Hb.out.below HB1.out) k0 k1).mono ?_
  rintro e _ ⟨rfl, rfl⟩
  rw [Hhd.out]
  clear k0 k1
  go_wp2_with fail
  refine (union_no (Ha.out.below HB1.out) (Hb.out.below HB1.out) Hhs.out).mono ?_
  rintro e w2 ⟨rfl, hb⟩
  have HB2 := Lib.hid (below_trans HB1.out hb)
  clear hb HB1
  go_wp2_with fail
  refine (both_no (Ha.out.below HB2.out) (Hb.out.below HB2.out) Hhs.out).mono ?_
  rintro e w3 ⟨rfl, hb⟩
  have HB3 := Lib.hid (below_trans HB2.out hb)
  clear hb HB2
  go_wp2_with fail
  refine (same_is (RdR.nil _) (RdR.nil _) rfl).mono ?_
  rintro e w4 ⟨rfl, hb⟩
  have HB4 := Lib.hid (below_trans HB3.out hb)
  clear hb HB3
  go_wp2_with fail
  refine (meet_no (Ha.out.below HB4.out) (Hb.out.below HB4.out) Hhs.out).mono ?_
  rintro e w5 ⟨rfl, hb⟩
  have HB5 := Lib.hid (below_trans HB4.out hb)
  clear hb HB4
  go_wp2_with fail
  refine (both_no (Ha.out.below HB5.out) (Hb.out.below HB5.out) Hhs.out).mono ?_
  rintro e w6 ⟨rfl, hb⟩
  have HB6 := Lib.hid (below_trans HB5.out hb)
  clear hb HB5
  go_wp2_with fail
  refine (same_is (RdR.nil _) (RdR.nil _) rfl).mono ?_
  rintro e w7 ⟨rfl, hb⟩
  have HB7 := Lib.hid (below_trans HB6.out hb)
  clear hb HB6
  go_wp2_with fail
  refine (minus_no (Ha.out.below HB7.out) (Hb.out.below HB7.out) Hhs.out).mono ?_
  rintro e w8 ⟨rfl, hb⟩
  have HB8 := Lib.hid (below_trans HB7.out hb)
  clear hb HB7
  go_wp2_with fail
  refine (both_no (Ha.out.below HB8.out) (Hb.out.below HB8.out) Hhs.out).mono ?_
  rintro e w9 ⟨rfl, hb⟩
  have HB9 := Lib.hid (below_trans HB8.out hb)
  clear hb HB8
  go_wp2_with fail
  refine (same_is (RdR.nil _) (RdR.nil _) rfl).mono ?_
  rintro e w10 ⟨rfl, hb⟩
  have HB10 := Lib.hid (below_trans HB9.out hb)
  clear hb HB9
  go_wp2_with fail
  refine (awake_calls _).mono ?_
  rintro e w11 ⟨rfl, hb⟩
  have HB11 := Lib.hid (below_trans HB10.out hb)
  clear hb HB10
  go_wp2
  go_ret
  exact ⟨rfl, HB11.out⟩
theorem combines_walk {w : World} {va vb : Value} {a b : List R} (ha : RdR w va a) (hb : RdR w vb b) :
    Calls Try.prog 8 #[va, vb] w fun e w' => e = .returned (.bool true) ∧ RowKit.Below w.heap.size w w' := by
  by_cases hbig : 40 < a.length ∨ 40 < b.length
  · exact combines_big ha hb (by simpa using hbig)
  · have hd : (decide (40 < a.length) || decide (40 < b.length)) = false := by simp; omega
    by_cases hs : IsSet a ∧ IsSet b
    · exact combines_yes ha hb hd (by omega) (by omega) hs.1 hs.2
    · exact combines_no ha hb hd (by omega) (by omega) hs
end Go.Proofs.Ytlbfkcgejpboeaa.Rs
