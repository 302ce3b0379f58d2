/-
  The law RevsetAsks, walked.
-/
import Derived.Test.YtlbfkcgejpboeaaRsQ
namespace Go.Proofs.Ytlbfkcgejpboeaa.Rs
open Go.RowKit Go.Proofs Go.Sort
set_option linter.unusedVariables false
set_option linter.unusedSimpArgs false
set_option linter.unusedSectionVars false

set_option maxHeartbeats 4000000 in
set_option maxRecDepth 100000 in
theorem asks_big {w : World} {va : Value} {a : List R} {n most : Int} (ha : RdR w va a) (hd : (decide (40 < a.length)) = true) :
    Calls Try.prog 4 #[va, .int .i64 n, .int .i64 most] w fun e w' => e = .returned (.bool true) ∧ RowKit.Below w.heap.size w w' := by
  have Ha := Lib.hid ha
  have Hhd := Lib.hid hd
  obtain ⟨Aa, ca, rfl, _⟩ := ha
  clear hd
  go_enter Try.func4, Try.ntmps4
  have HB0 := Lib.hid (RowKit.Below.refl w.heap.size w)
  go_wp2_with fail
  have hb : RowKit.Below w.heap.size w (w.alloc (Obj.cells #[Value.slice Aa a.length ca] 22)) := (RowKit.Below.refl _ _).alloc (Nat.le_refl _) _
  have k0 : (w.alloc (Obj.cells #[Value.slice Aa a.length ca] 22)).cell? ⟨w.heap.size, 0, none⟩ = some (Value.slice Aa a.length ca) := by go_simp
  generalize w.alloc (Obj.cells #[Value.slice Aa a.length ca] 22) = w1 at *
  have HB1 := Lib.hid (below_trans HB0.out hb)
  clear hb HB0
  go_wp2_with fail
  refine (many1 (Ha.out.below HB1.out) k0).mono ?_
  rintro e _ ⟨rfl, rfl⟩
  rw [Hhd.out]
  clear k0
  go_wp2_with fail
  refine (awake_calls _).mono ?_
  rintro e w2 ⟨rfl, hb⟩
  have HB2 := Lib.hid (below_trans HB1.out hb)
  clear hb HB1
  go_wp2
  go_ret
  exact ⟨rfl, HB2.out⟩
set_option maxHeartbeats 4000000 in
set_option maxRecDepth 100000 in
theorem asks_far {w : World} {va : Value} {a : List R} {n most : Int} (ha : RdR w va a) (hd : (decide (40 < a.length)) = false) (hm : 2000 < most) :
    Calls Try.prog 4 #[va, .int .i64 n, .int .i64 most] w fun e w' => e = .returned (.bool true) ∧ RowKit.Below w.heap.size w w' := by
  have Ha := Lib.hid ha
  have Hhd := Lib.hid hd
  obtain ⟨Aa, ca, rfl, _⟩ := ha
  clear hd
  have hm1 : decide ((2000 : Int) < most) = true := decide_eq_true hm
  go_enter Try.func4, Try.ntmps4
  have HB0 := Lib.hid (RowKit.Below.refl w.heap.size w)
  go_wp2_with fail
  have hb : RowKit.Below w.heap.size w (w.alloc (Obj.cells #[Value.slice Aa a.length ca] 22)) := (RowKit.Below.refl _ _).alloc (Nat.le_refl _) _
  have k0 : (w.alloc (Obj.cells #[Value.slice Aa a.length ca] 22)).cell? ⟨w.heap.size, 0, none⟩ = some (Value.slice Aa a.length ca) := by go_simp
  generalize w.alloc (Obj.cells #[Value.slice Aa a.length ca] 22) = w1 at *
  have HB1 := Lib.hid (below_trans HB0.out hb)
  clear hb HB0
  go_wp2_with fail
  refine (many1 (Ha.out.below HB1.out) k0).mono ?_
  rintro e _ ⟨rfl, rfl⟩
  rw [Hhd.out]
  clear k0
  go_wp2_with fail
  refine (awake_calls _).mono ?_
  rintro e w2 ⟨rfl, hb⟩
  have HB2 := Lib.hid (below_trans HB1.out hb)
  clear hb HB1
  go_wp2
  go_ret
  exact ⟨rfl, HB2.out⟩
theorem has_not {w : World} {v : Value} {rs : List R} {n : Int} (h : RdR w v rs) (hl : rs.length ≤ 1000000) (hs : ¬ IsSet rs) :
    Calls Try.prog 18 #[v, .int .i64 n] w fun e w' => e = .returned (.bool false) ∧ RowKit.Below w.heap.size w w' := by
  have := has_calls (n := n) h hl
  rwa [decide_eq_false hs, Bool.false_and] at this
theorem rcount_is {w : World} {v : Value} {rs : List R} {x : Int} (h : RdR w v rs) (hs : IsSet rs) (hl : rs.length ≤ 1000000) (hx : countR rs = x) :
    Calls Try.prog 21 #[v] w fun e w' => e = .returned (.int .i64 x) ∧ RowKit.Below w.heap.size w w' := by
  rw [← hx]; exact rcount_calls h hs hl
set_option maxHeartbeats 4000000 in
set_option maxRecDepth 100000 in
theorem asks_no {w : World} {va : Value} {a : List R} {n most : Int} (ha : RdR w va a) (hd : (decide (40 < a.length)) = false) (hl : a.length ≤ 40) (hm : most ≤ 2000) (hs : ¬ IsSet a) :
    Calls Try.prog 4 #[va, .int .i64 n, .int .i64 most] w fun e w' => e = .returned (.bool true) ∧ RowKit.Below w.heap.size w w' := by
  have Ha := Lib.hid ha
  have Hhd := Lib.hid hd
  have Hhs := Lib.hid hs
  obtain ⟨Aa, ca, rfl, _⟩ := ha
  clear hd hs
  have hm1 : decide ((2000 : Int) < most) = false := decide_eq_false (by omega)
  go_enter Try.func4, Try.ntmps4
  have HB0 := Lib.hid (RowKit.Below.refl w.heap.size w)
  go_wp2_with fail
  have hb : RowKit.Below w.heap.size w (w.alloc (Obj.cells #[Value.slice Aa a.length ca] 22)) := (RowKit.Below.refl _ _).alloc (Nat.le_refl _) _
  have k0 : (w.alloc (Obj.cells #[Value.slice Aa a.length ca] 22)).cell? ⟨w.heap.size, 0, none⟩ = some (Value.slice Aa a.length ca) := by go_simp
  generalize w.alloc (Obj.cells #[Value.slice Aa a.length ca] 22) = w1 at *
  have HB1 := Lib.hid (below_trans HB0.out hb)
  clear hb HB0
  go_wp2_with fail
  refine (many1 (Ha.out.below HB1.out) k0).mono ?_
  rintro e _ ⟨rfl, rfl⟩
  rw [Hhd.out]
  clear k0
  go_wp2_with fail
  refine (count_not (Ha.out.below HB1.out) Hhs.out).mono ?_
  rintro e w2 ⟨rfl, hb⟩
  have HB2 := Lib.hid (below_trans HB1.out hb)
  clear hb HB1
  go_wp2_with fail
  refine (members_not (Ha.out.below HB2.out) Hhs.out).mono ?_
  rintro e w3 ⟨rfl, hb⟩
  have HB3 := Lib.hid (below_trans HB2.out hb)
  clear hb HB2
  go_wp2_with fail
  refine (has_not (n := n) (Ha.out.below HB3.out) (by omega) Hhs.out).mono ?_
  rintro e w4 ⟨rfl, hb⟩
  have HB4 := Lib.hid (below_trans HB3.out hb)
  clear hb HB3
  go_wp2_with fail
  refine (rcheck_is (Ha.out.below HB4.out) (chkE_no Hhs.out)).mono ?_
  rintro e w5 ⟨rfl, hb⟩
  have HB5 := Lib.hid (below_trans HB4.out hb)
  clear hb HB4
  go_wp2_with fail
  refine (awake_calls _).mono ?_
  rintro e w6 ⟨rfl, hb⟩
  have HB6 := Lib.hid (below_trans HB5.out hb)
  clear hb HB5
  go_wp2
  go_ret
  exact ⟨rfl, HB6.out⟩
set_option maxHeartbeats 4000000 in
set_option maxRecDepth 100000 in
theorem asks_yes {w : World} {va : Value} {a : List R} {n most : Int} (ha : RdR w va a) (hd : (decide (40 < a.length)) = false) (hl : a.length ≤ 40) (hm : most ≤ 2000) (hs : IsSet a) (p : Bool) (hp : memB a n = p) (x : Int) (hx : countR a = x) :
    Calls Try.prog 4 #[va, .int .i64 n, .int .i64 most] w fun e w' => e = .returned (.bool true) ∧ RowKit.Below w.heap.size w w' := by
  have Ha := Lib.hid ha
  have Hhd := Lib.hid hd
  have Hhs := Lib.hid hs
  have Hhp := Lib.hid hp
  have Hhx := Lib.hid hx
  obtain ⟨Aa, ca, rfl, _⟩ := ha
  clear hd hs hp hx
  have hm1 : decide ((2000 : Int) < most) = false := decide_eq_false (by omega)
  go_enter Try.func4, Try.ntmps4
  have HB0 := Lib.hid (RowKit.Below.refl w.heap.size w)
  go_wp2_with fail
  have hb : RowKit.Below w.heap.size w (w.alloc (Obj.cells #[Value.slice Aa a.length ca] 22)) := (RowKit.Below.refl _ _).alloc (Nat.le_refl _) _
  have k0 : (w.alloc (Obj.cells #[Value.slice Aa a.length ca] 22)).cell? ⟨w.heap.size, 0, none⟩ = some (Value.slice Aa a.length ca) := by go_simp
  generalize w.alloc (Obj.cells #[Value.slice Aa a.length ca] 22) = w1 at *
  have HB1 := Lib.hid (below_trans HB0.out hb)
  clear hb HB0
  go_wp2_with fail
  refine (many1 (Ha.out.below HB1.out) k0).mono ?_
  rintro e _ ⟨rfl, rfl⟩
  rw [Hhd.out]
  clear k0
  go_wp2_with fail
  refine (count_is (Ha.out.below HB1.out) Hhs.out (by omega) Hhx.out).mono ?_
  rintro e w2 ⟨rfl, hb⟩
  have HB2 := Lib.hid (below_trans HB1.out hb)
  clear hb HB1
  go_wp2_with fail
  refine (members_calls (most := most) (Ha.out.below HB2.out) Hhs.out (by omega) hm).mono ?_
  rintro e w3 ⟨z, rfl, hr, hb⟩
  have HZ_3 := Lib.hid hr
  have HB3 := Lib.hid (below_trans HB2.out hb)
  clear hb HB2 hr
  go_wp2_with fail
  refine (has_is (Ha.out.below HB3.out) Hhs.out (by omega) Hhp.out).mono ?_
  rintro e w4 ⟨rfl, hb⟩
  have HZ_4 := Lib.hid (HZ_3.out.below hb)
  have HB4 := Lib.hid (below_trans HB3.out hb)
  clear hb HB3 HZ_3
  go_wp2_with fail
  refine (rcheck_is (Ha.out.below HB4.out) (chkE_yes Hhs.out)).mono ?_
  rintro e w5 ⟨rfl, hb⟩
  have HZ_5 := Lib.hid (HZ_4.out.below hb)
  have HB5 := Lib.hid (below_trans HB4.out hb)
  clear hb HB4 HZ_4
  go_wp2_with fail
  refine (rmembers_calls (most := most) (Ha.out.below HB5.out) Hhs.out (by omega) hm).mono ?_
  rintro e w6 ⟨y, rfl, hr, hb⟩
  have HZ_6 := Lib.hid (HZ_5.out.below hb)
  have HY_6 := Lib.hid hr
  have HB6 := Lib.hid (below_trans HB5.out hb)
  clear hb HB5 HZ_5 hr
  obtain ⟨Az, cz, he, h1z, h2z, _⟩ := HZ_6.out
  subst he
  obtain ⟨Ay, cy, he, h1y, h2y, _⟩ := HY_6.out
  subst he
  generalize (expand a).take most.toNat = xs at *
  go_wp2_with fail
  refine (rcount_is (Ha.out.below HB6.out) Hhs.out (by omega) Hhx.out).mono ?_
  rintro e w7 ⟨rfl, hb⟩
  have HZ_7 := Lib.hid (HZ_6.out.below hb)
  have HY_7 := Lib.hid (HY_6.out.below hb)
  have HB7 := Lib.hid (below_trans HB6.out hb)
  clear hb HB6 HZ_6 HY_6
  cases p
  all_goals
    go_wp2_with fail
    refine (in_is (Ha.out.below HB7.out) Hhp.out).mono ?_
    rintro e w8 ⟨rfl, hb⟩
    have HZ_8 := Lib.hid (HZ_7.out.below hb)
    have HY_8 := Lib.hid (HY_7.out.below hb)
    have HB8 := Lib.hid (below_trans HB7.out hb)
    clear hb HB7 HZ_7 HY_7
    go_wp2
    go_loopw [96] (fun i wr => ∃ k : Nat, k ≤ xs.length ∧ i = .int .i64 k ∧ RowKit.Below w8.heap.size w8 wr) (fun i _ => xs.length - (intOf i).toNat)
    case atStart => exact ⟨0, Nat.zero_le _, rfl, RowKit.Below.refl _ _⟩
    case round =>
      obtain ⟨k, hk, rfl, hb⟩ := hrel
      have HBk := Lib.hid hb
      have HBt := Lib.hid (below_trans HB8.out hb)
      clear hb
      by_cases hlt : k < xs.length
      · obtain ⟨g1, o1, e1, hc1⟩ := HZ_8.out.at_ hlt
        obtain ⟨g2, o2, e2, hc2⟩ := HY_8.out.at_ hlt
        subst e1 e2
        have x1 := cell_of_below HBk.out (hc1 k hlt)
        have x2 := cell_of_below HBk.out (hc2 k hlt)
        have hk0 : (0 : Int) ≤ (k : Int) := by omega
        have hk1 : (k : Int) < (xs.length : Int) := by omega
        clear hc1 hc2
        generalize xs.getD k 0 = x at *
        go_wp2
        go_quiet (fail)
        have Hbd := Lib.hid (below_trans HBk.out (below_grow wr nq #[]))
        go_wp2
        refine ⟨⟨k + 1, by omega, by go_num, ?_⟩, by simp [intOf]; omega⟩
        have := Hbd.out
        rwa [grow_empty] at this
      · go_wp2_with fail
        refine (awake_calls _).mono ?_
        rintro e we ⟨rfl, hb⟩
        have HBe := Lib.hid (below_trans HBt.out hb)
        clear hb
        go_wp2
        go_ret
        exact ⟨rfl, HBe.out⟩
theorem asks_walk {w : World} {va : Value} {a : List R} {n most : Int} (ha : RdR w va a) :
    Calls Try.prog 4 #[va, .int .i64 n, .int .i64 most] w fun e w' => e = .returned (.bool true) ∧ RowKit.Below w.heap.size w w' := by
  by_cases hbig : 40 < a.length
  · exact asks_big ha (by simpa using hbig)
  · have hd : decide (40 < a.length) = false := decide_eq_false hbig
    by_cases hm : 2000 < most
    · exact asks_far ha hd hm
    · by_cases hs : IsSet a
      · exact asks_yes ha hd (by omega) (by omega) hs _ rfl _ rfl
      · exact asks_no ha hd (by omega) (by omega) hs
end Go.Proofs.Ytlbfkcgejpboeaa.Rs
