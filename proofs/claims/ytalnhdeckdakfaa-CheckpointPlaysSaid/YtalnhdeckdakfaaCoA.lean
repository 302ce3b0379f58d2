/-
  The codec: PutUint (behind nothing) and Uint.
-/
import Derived.Test.YtalnhdeckdakfaaDevC
import Derived.Test.YtalnhdeckdakfaaCoPlain
import Derived.OwnWalk
namespace Go.Proofs.Ytalnhdeckdakfaa.Dev
open Go.RowKit Go.Proofs Co
set_option linter.unusedVariables false
set_option linter.unusedSectionVars false
set_option linter.unusedSimpArgs false
variable [Bs]

theorem bits_or128 {y : Nat} (h : y < 256) : bits .or .u8 (y : Int) 128 = ((y % 128 + 128 : Nat) : Int) := by
  have h1 : ((List.range 256).all fun y => bits .or .u8 (y : Int) 128 == ((y % 128 + 128 : Nat) : Int)) = true := by kernel_rfl
  exact eq_of_beq (List.all_eq_true.1 h1 y (List.mem_range.2 h))
theorem bits_andNot128 {y : Nat} (h : y < 256) : bits .andNot .u8 (y : Int) 128 = ((y % 128 : Nat) : Int) := by
  have h1 : ((List.range 256).all fun y => bits .andNot .u8 (y : Int) 128 == ((y % 128 : Nat) : Int)) = true := by kernel_rfl
  exact eq_of_beq (List.all_eq_true.1 h1 y (List.mem_range.2 h))

theorem wrap_u64 {n : Nat} (h : n < 18446744073709551616) : IntKind.u64.wrap (n : Int) = (n : Int) := by
  simp [IntKind.wrap, IntKind.signed, IntKind.bits]
  omega
theorem bits_or_nat {a b : Nat} (ha : a < 18446744073709551616) (hb : b < 18446744073709551616) : bits .or .u64 (a : Int) (b : Int) = ((a ||| b : Nat) : Int) := by
  have h : bits .or .u64 (a : Int) (b : Int) = IntKind.u64.wrap ((BitVec.ofInt 64 (a : Int) ||| BitVec.ofInt 64 (b : Int)).toNat : Int) := rfl
  have h2 : (BitVec.ofInt 64 (a : Int) ||| BitVec.ofInt 64 (b : Int)).toNat = a ||| b := by
    rw [BitVec.toNat_or]
    congr 1
    · simp only [BitVec.toNat_ofInt]; omega
    · simp only [BitVec.toNat_ofInt]; omega
  rw [h, h2, wrap_u64]
  have h3 : (a ||| b) < 2 ^ 64 := Nat.or_lt_two_pow (by omega) (by omega)
  omega
theorem or_val {a q y : Nat} (ha : a < 2 ^ (7 * q)) (hq : q ≤ 9) (h9 : q = 9 → y = 1) (hy : y < 256) :
    bits .or .u64 (a : Int) (IntKind.u64.wrap (IntKind.u64.wrap (bits .andNot .u8 (y : Int) 128) * 2 ^ (7 * q))) = ((a + (y % 128) * 2 ^ (7 * q) : Nat) : Int) := by
  rw [bits_andNot128 hy, wrap_u64 (by omega)]
  have hp : ((y % 128 : Nat) : Int) * 2 ^ (7 * q) = (((y % 128) * 2 ^ (7 * q) : Nat) : Int) := by push_cast; rfl
  have hlt : (y % 128) * 2 ^ (7 * q) < 18446744073709551616 ∧ a < 18446744073709551616 := by
    have h1 : y % 128 ≤ 127 := by omega
    by_cases h : q = 9
    · subst h
      have h2 := h9 rfl
      subst h2
      have ha2 : a < 9223372036854775808 := Nat.lt_of_lt_of_le ha (by decide)
      have e : 1 % 128 * 2 ^ (7 * 9) = 9223372036854775808 := by decide
      rw [e]
      omega
    · have h2 : (2 : Nat) ^ (7 * q) ≤ 2 ^ 56 := Nat.pow_le_pow_right (by omega) (by omega)
      have h3 : (2 : Nat) ^ 56 = 72057594037927936 := by decide
      have h4 := Nat.mul_le_mul h1 h2
      rw [h3] at h2 h4
      omega
  rw [hp, wrap_u64 hlt.1, bits_or_nat hlt.2 hlt.1]
  have h := Nat.two_pow_add_eq_or_of_lt ha (y % 128)
  rw [Nat.or_comm, Nat.mul_comm (y % 128), ← h, Nat.add_comm]
theorem val_lt {a q y : Nat} (ha : a < 2 ^ (7 * q)) : a + (y % 128) * 2 ^ (7 * q) < 2 ^ (7 * (q + 1)) := by
  have hp : (2 : Nat) ^ (7 * (q + 1)) = 128 * 2 ^ (7 * q) := by rw [show 7 * (q + 1) = 7 * q + 7 by omega, Nat.pow_add, Nat.mul_comm]
  rw [hp]
  have h1 : y % 128 ≤ 127 := by omega
  have h2 := Nat.mul_le_mul_right (2 ^ (7 * q)) h1
  omega
theorem run_copy_zero (W : World) (a : Option Addr) (c : Nat) : (Builtin.copy_ #[32, 32] 3 #[.slice a 0 c, .slice none 0 0]).run Try.prog W = .ok (.int .i64 0) W := by
  obtain ⟨i0, hi, hzz⟩ := Option.map_eq_some_iff.1 info5
  simp only [Prod.mk.injEq] at hzz
  obtain ⟨hz0, hz1, hz2⟩ := hzz
  cases a <;> simp [Builtin.copy_, run_underlying Try.underlying32, sizeOf, typeInfo, hi, hz1, Builtin.lenOf, Builtin.firstCells, Result.andThen, storeCells, loadCells, goInt]

set_option maxHeartbeats 4000000 in
set_option maxRecDepth 100000 in
theorem putUint_calls (w : World) {v : Nat} (hv : v < 18446744073709551616) :
    Calls Try.prog 61 #[.slice none 0 0, .int .u64 v] w fun e w' => ∃ v1, e = .returned v1 ∧ w'.ownsRow w.heap.size 5 1 v1 (putU v).length (u8s (putU v)) ∧ Below w.heap.size w w' := by
  obtain ⟨i0, hi, hzz⟩ := Option.map_eq_some_iff.1 info5
  simp only [Prod.mk.injEq] at hzz
  obtain ⟨hz0, hz1, hz2⟩ := hzz
  have Hi := Lib.hid hi
  have Hz0 := Lib.hid hz0
  have Hz1 := Lib.hid hz1
  have Hz2 := Lib.hid hz2
  clear hi hz0 hz1 hz2
  have hcp := run_copy_zero
  go_enter Try.func61, Try.ntmps61
  go_wp2_with (first
    | (at_make; refine wpList_make_own _ rfl _ _ 32 rfl w.heap.size 5 i0 (.int .u8 0) 1 Try.underlying32 Hi.out Hz0.out Hz1.out _ _ _ 10 rfl rfl rfl (by rw [Hz2.out]; decide) (by decide) (Nat.le_refl _) ?_; intro w1 ho1 hg1; have HO1 := Lib.hid ho1; have HG1 := Lib.hid hg1; clear ho1 hg1)
    | fail)
  have HB1 : Hid (Below w.heap.size w w1) := Lib.hid ((Below.refl _ _).grown HG1.out (Nat.le_refl _) (fun k hk => by cases hk))
  go_loopw [5, 1] (fun o x wr => ∃ (pre : List Int) (y : Nat), x = .int .u64 y ∧ y < 18446744073709551616 ∧ wr.ownsRow w.heap.size 5 1 o pre.length (u8s pre) ∧ pre ++ putU y = putU v ∧ Below w.heap.size w wr) (fun _ x _ => (intOf x).toNat)
  case atStart => exact ⟨[], v, rfl, hv, HO1.out, rfl, HB1.out⟩
  case round =>
    obtain ⟨pre, y, rfl, hy, ho, hp, hb⟩ := hrel
    have HO := Lib.hid ho
    have HP := Lib.hid hp
    have HB := Lib.hid hb
    have hlen : pre.length ≤ 10 := by
      have h1 := congrArg List.length hp
      have h2 := putU_len10 hv
      rw [List.length_append] at h1
      omega
    obtain ⟨A2, c2, he2⟩ := own_form ho
    clear ho hp hb HO1 HG1 HB1
    subst he2
    by_cases hlt : 128 ≤ y
    · have hge : decide ((128 : Int) ≤ (y : Int)) = true := by simp; omega
      have hw1 : (y : Int) % 256 = ((y % 256 : Nat) : Int) := by omega
      have Hb : Hid (bits .or .u8 ((y : Int) % 256) 128 = ((y % 128 + 128 : Nat) : Int)) := Lib.hid (by rw [hw1, bits_or128 (Nat.mod_lt _ (by omega))]; omega)
      clear hw1
      go_wp2_with (at_builtin; refine wpList_append_own _ rfl _ _ 32 rfl w.heap.size 5 i0 (.int .u8 0) 1 1 Try.underlying32 Hi.out Hz0.out Hz1.out Hz2.out rfl (by decide) _ _ _ rfl (HO.out.alloc _) ⟨wr.heap.size, 0, none⟩ 1 1 [.int .u8 (bits .or .u8 ((y : Int) % 256) 128)] rfl rfl (cell_one_new _ _ _) (by simp [Value.oneCell']) (by unfold maxLen; omega) (by omega) (by have := HB.out.size; simp; omega) ?_; intro v' w3 ho3 hg3 hnil3; have HO3 := Lib.hid ho3; have HG3 := Lib.hid hg3; clear ho3 hg3 hnil3)
      have hb3 : Below w.heap.size w w3 := (HB.out.alloc HB.out.size _).grown HG3.out (by have := HB.out.size; simp; omega) (fun j hj => (HO.out.lt j hj).1)
      have ho3 := HO3.out
      rw [Hb.out, show u8s pre ++ [Value.int .u8 ((y % 128 + 128 : Nat) : Int)] = u8s (pre ++ [((y % 128 + 128 : Nat) : Int)]) from by simp [u8s]] at ho3
      refine ⟨⟨pre ++ [((y % 128 + 128 : Nat) : Int)], y / 128, by go_num, by omega, by simpa using ho3, ?_, hb3⟩, by simp [intOf]; omega⟩
      have h1 := HP.out
      rw [putU_ge hlt] at h1
      rw [List.append_assoc]
      exact h1
    · have hge : decide ((128 : Int) ≤ (y : Int)) = false := by simp; omega
      have hw1 : (y : Int) % 256 = (y : Int) := by omega
      go_wp2_with (at_builtin; refine wpList_append_own _ rfl _ _ 32 rfl w.heap.size 5 i0 (.int .u8 0) 1 1 Try.underlying32 Hi.out Hz0.out Hz1.out Hz2.out rfl (by decide) _ _ _ rfl (HO.out.alloc _) ⟨wr.heap.size, 0, none⟩ 1 1 [.int .u8 (y : Int)] rfl rfl (cell_one_new _ _ _) (by simp [Value.oneCell']) (by unfold maxLen; omega) (by omega) (by have := HB.out.size; simp; omega) ?_; intro v' w3 ho3 hg3 hnil3; have HO3 := Lib.hid ho3; have HG3 := Lib.hid hg3; clear ho3 hg3 hnil3)
      go_ret
      have hb3 : Below w.heap.size w w3 := (HB.out.alloc HB.out.size _).grown HG3.out (by have := HB.out.size; simp; omega) (fun j hj => (HO.out.lt j hj).1)
      have ho3 := HO3.out
      have h1 := HP.out
      rw [putU_lt (by omega)] at h1
      rw [show u8s pre ++ [Value.int .u8 (y : Int)] = u8s (putU v) from by rw [← h1]; simp [u8s]] at ho3
      refine ⟨v', rfl, ?_, hb3⟩
      rw [← h1]
      rw [← h1] at ho3
      simpa using ho3

theorem inside_calls (w : World) {a : Option Addr} {n c : Nat} (at' : Int) :
    Calls Try.prog 72 #[.slice a n c, .int .i64 at'] w fun e w' => e = .returned (.bool (decide (0 ≤ at') && decide (at' ≤ (n : Int)))) ∧ w = w' := by
  by_cases h : 0 ≤ at'
  · have hd : decide (0 ≤ at') = true := by simpa using h
    rw [hd, Bool.true_and]
    go_enter Try.func72, Try.ntmps72
    go_wp2
    go_ret
    exact ⟨rfl, rfl⟩
  · have hd : decide (0 ≤ at') = false := by simpa using h
    rw [hd, Bool.false_and]
    go_enter Try.func72, Try.ntmps72
    go_wp2
    go_ret
    exact ⟨rfl, rfl⟩
/-- what Uint returns -/
def ures (at' : Nat) (r : Nat × Nat × Int) : Value := .tuple #[.int .u64 r.1, .int .i64 (if r.2.2 = 0 then ((at' + r.2.1 : Nat) : Int) else 0), .int .i64 r.2.2]
set_option maxHeartbeats 4000000 in
set_option maxRecDepth 100000 in
theorem uint_calls {w : World} {v : Value} {xs : List Int} (h : Rd w v xs) (hb : ∀ x ∈ xs, 0 ≤ x ∧ x < 256) (at' : Nat) (ha : at' ≤ xs.length) :
    Calls Try.prog 66 #[v, .int .i64 at'] w fun e w' => e = .returned (ures at' (uget (xs.drop at') 0 0)) ∧ w = w' := by
  have HR := Lib.hid h
  have Hby := Lib.hid hb
  obtain ⟨A, c, rfl, hc1, hc2, hcell⟩ := h
  have Hc := Lib.hid hcell
  clear hb hcell
  have hla : at' ≤ c := by omega
  have d1 : decide ((0 : Int) ≤ (at' : Int)) = true := by simp
  have d2 : decide ((at' : Int) ≤ (xs.length : Int)) = true := by simp; omega
  rcases A with _ | ad
  · have h0 : xs = [] := by
      cases xs with
      | nil => rfl
      | cons y ys => obtain ⟨ad, h, _⟩ := Hc.out 0 (by simp); cases h
    subst h0
    have ha0 : at' = 0 := by simpa using ha
    subst ha0
    go_enter Try.func66, Try.ntmps66
    go_wp2_with fail
    refine (inside_calls w 0).mono ?_
    rintro e _ ⟨rfl, rfl⟩
    go_wp2
    refine wp_loop_rounds 1 ?_
    rw [rounds_succ]
    go_wp2
    exact bodyPost_ret (v := .tuple #[.int .u64 0, .int .i64 0, .int .i64 11]) (by simp [results, Try.results66, go_sem]) rfl ⟨rfl, rfl⟩
  · by_cases hcc : c = at'
    · have hdr : xs.drop at' = [] := List.drop_eq_nil_of_le (by omega)
      have hlen0 : xs.length - at' = 0 := by omega
      rw [hdr]
      subst hcc
      go_enter Try.func66, Try.ntmps66
      go_wp2_with fail
      refine (inside_calls w (c : Int)).mono ?_
      rintro e _ ⟨rfl, rfl⟩
      rw [d1, d2]
      go_wp2
      refine wp_loop_rounds 1 ?_
      rw [rounds_succ]
      go_wp2
      exact bodyPost_ret (v := .tuple #[.int .u64 0, .int .i64 0, .int .i64 11]) (by simp [results, Try.results66, go_sem]) rfl ⟨rfl, rfl⟩
    have hcc2 : at' ≠ c := fun e => hcc e.symm
    go_enter Try.func66, Try.ntmps66
    go_wp2_with fail
    refine (inside_calls w (at' : Int)).mono ?_
    rintro e _ ⟨rfl, rfl⟩
    rw [d1, d2]
    go_wp2
    go_loopw [4, 7, 8, 17] (fun acc _ _ i wr => ∃ (q a : Nat), q + at' ≤ xs.length ∧ q ≤ 9 ∧ i = .int .i64 q ∧ acc = .int .u64 a ∧ a < 2 ^ (7 * q) ∧ w = wr ∧ uget (xs.drop at') 0 0 = uget (xs.drop (at' + q)) q a) (fun _ _ _ i _ => xs.length - (intOf i).toNat)
    case atStart => exact ⟨0, 0, by omega, by omega, rfl, rfl, by decide, rfl, rfl⟩
    case round =>
      obtain ⟨q, a, hq, hq9, rfl, rfl, hacc, rfl, hu⟩ := hrel
      have HU := Lib.hid hu
      clear hu
      by_cases hlt : q + at' < xs.length
      · have hdr : xs.drop (at' + q) = xs.getD (at' + q) 0 :: xs.drop (at' + q + 1) := by
          rw [List.drop_eq_getElem_cons (by omega), List.getD_eq_getElem?_getD, List.getElem?_eq_getElem (by omega), Option.getD_some]
        obtain ⟨ad', ead, hc0, _⟩ := Hc.out (at' + q) (by omega)
        injection ead with ead
        subst ead
        have hcb := Hby.out (xs.getD (at' + q) 0) (by
          rw [List.getD_eq_getElem?_getD, List.getElem?_eq_getElem (by omega), Option.getD_some]; exact List.getElem_mem _)
        have hcell : w.cell? ((ad.add at').add q) = some (.int .u8 (xs.getD (at' + q) 0)) := by rw [Addr.add_add]; exact hc0
        have hu := HU.out
        rw [hdr] at hu
        obtain ⟨y, hy⟩ : ∃ y : Nat, xs.getD (at' + q) 0 = (y : Int) := ⟨(xs.getD (at' + q) 0).toNat, by omega⟩
        rw [hy] at hcell hu hcb
        have hy256 : y < 256 := by omega
        have hql : (q : Int) < ((xs.length - at' : Nat) : Int) := by omega
        simp only [uget] at hu
        have hdr' := Lib.hid hdr
        clear hdr hc0 hy hcb
        have HU2 := Lib.hid hu
        clear hu
        by_cases hbad : (0 < q ∧ y = 0) ∨ (q = 9 ∧ y ≠ 1)
        · have hu : uget (xs.drop at') 0 0 = (0, 0, 12) := by rw [HU2.out, if_pos (by omega)]
          have HU3 := Lib.hid hu
          clear hu HU HU2 hdr'
          by_cases hb1 : 0 < q ∧ y = 0
          · obtain ⟨hb1, hb2⟩ := hb1
            subst hb2
            have hq0 : (0 : Int) < (q : Int) := by omega
            clear hbad
            go_wp2
            exact bodyPost_ret (v := .tuple #[.int .u64 0, .int .i64 0, .int .i64 12]) (by simp [results, Try.results66, go_sem]) rfl ⟨by rw [HU3.out]; rfl, rfl⟩
          · have hb2 : q = 9 ∧ y ≠ 1 := hbad.resolve_left hb1
            obtain ⟨hq9', hy1⟩ := hb2
            have e1 : ((q : Int) == 9) = true := by simp; omega
            have e2 : decide ((q : Int) = 9) = true := by simp; omega
            have hq0 : (0 : Int) < (q : Int) := by omega
            have hy1' : ¬ (y : Int) = 1 := by omega
            have hy0' : ¬ (y : Int) = 0 := by omega
            have e3 : ((y : Int) == 0) = false := by rw [beq_eq_false_iff_ne]; omega
            have e4 : ((y : Int) != 1) = true := by rw [bne_iff_ne]; omega
            clear hbad hb1 hq9'
            go_wp2
            exact bodyPost_ret (v := .tuple #[.int .u64 0, .int .i64 0, .int .i64 12]) (by simp [results, Try.results66, go_sem]) rfl ⟨by rw [HU3.out]; rfl, rfl⟩
        · have hu : uget (xs.drop at') 0 0 = if (y : Int) < 128 then (a + y * 2 ^ (7 * q), q + 1, 0) else uget (xs.drop (at' + q + 1)) (q + 1) (a + (y % 128) * 2 ^ (7 * q)) := by
            rw [HU2.out, if_neg (by omega)]
            rfl
          have HU3 := Lib.hid hu
          clear hu HU HU2 hdr'
          have g1 : ¬ (0 < q ∧ y = 0) := fun h => hbad (.inl h)
          have g2 : ¬ (q = 9 ∧ y ≠ 1) := fun h => hbad (.inr h)
          have h9 : q = 9 → y = 1 := fun e => by
            by_cases h : y = 1
            · exact h
            · exact absurd ⟨e, h⟩ g2
          have Hv := Lib.hid (or_val hacc hq9 h9 hy256)
          have Hvl := Lib.hid (val_lt (y := y) hacc)
          have f1 : ((q : Int) == 9) = decide (q = 9) := by rw [Bool.eq_iff_iff, beq_iff_eq, decide_eq_true_iff]; omega
          have f2 : ((y : Int) == 0) = decide (y = 0) := by rw [Bool.eq_iff_iff, beq_iff_eq, decide_eq_true_iff]; omega
          have f3 : ((y : Int) != 1) = decide (y ≠ 1) := by rw [Bool.eq_iff_iff, bne_iff_ne, decide_eq_true_iff]; omega
          have hcond : (decide ((0 : Int) < (q : Int)) && ((y : Int) == 0)) = false := by rw [f2]; simp; omega
          have hv0 := Hv.out
          by_cases hsm : y < 128
          · have hsd : (y : Int) < 128 := by omega
            have hm : y % 128 = y := by omega
            rw [if_pos hsd] at HU3
            have HU4 := Lib.hid HU3.out
            have hres : ures at' (uget (xs.drop at') 0 0) = .tuple #[.int .u64 ((a + y % 128 * 2 ^ (7 * q) : Nat) : Int), .int .i64 ((at' : Int) + (q : Int) + 1), .int .i64 0] := by
              rw [HU4.out, hm]
              simp only [ures, if_true]
              congr 4
            have Hres := Lib.hid hres
            clear HU3 HU4 hres hm f1 f2 f3 hcond hv0
            rcases Nat.eq_zero_or_pos q with hz | hz
            · have z1 : ¬ (0 : Int) < (q : Int) := by omega
              have z2 : ((q : Int) == 9) = false := by rw [beq_eq_false_iff_ne]; omega
              clear hz
              go_wp2
              erw [Hv.out]
              exact bodyPost_ret (v := .tuple #[.int .u64 ((a + y % 128 * 2 ^ (7 * q) : Nat) : Int), .int .i64 ((at' : Int) + (q : Int) + 1), .int .i64 0]) (by simp [results, Try.results66, go_sem]) rfl ⟨by rw [Hres.out], rfl⟩
            · have z1 : (0 : Int) < (q : Int) := by omega
              have z3 : ((y : Int) == 0) = false := by rw [beq_eq_false_iff_ne]; omega
              by_cases hn : q = 9
              · have z2 : ((q : Int) == 9) = true := by rw [beq_iff_eq]; omega
                have z4 : ((y : Int) != 1) = false := by rw [bne_eq_false_iff_eq]; have := h9 hn; omega
                clear hn hz h9
                go_wp2
                erw [Hv.out]
                exact bodyPost_ret (v := .tuple #[.int .u64 ((a + y % 128 * 2 ^ (7 * q) : Nat) : Int), .int .i64 ((at' : Int) + (q : Int) + 1), .int .i64 0]) (by simp [results, Try.results66, go_sem]) rfl ⟨by rw [Hres.out], rfl⟩
              · have z2 : ((q : Int) == 9) = false := by rw [beq_eq_false_iff_ne]; omega
                clear hn hz h9
                go_wp2
                erw [Hv.out]
                exact bodyPost_ret (v := .tuple #[.int .u64 ((a + y % 128 * 2 ^ (7 * q) : Nat) : Int), .int .i64 ((at' : Int) + (q : Int) + 1), .int .i64 0]) (by simp [results, Try.results66, go_sem]) rfl ⟨by rw [Hres.out], rfl⟩
          · have hsd : ¬ (y : Int) < 128 := by omega
            rw [if_neg hsd] at HU3
            have hq8 : q ≤ 8 := by
              rcases Nat.lt_or_ge q 9 with h | h
              · omega
              · have := h9 (by omega); omega
            have HU4 := Lib.hid HU3.out
            clear HU3 g1 g2 h9 f1 f2 f3 hcond hv0
            have z2 : ((q : Int) == 9) = false := by rw [beq_eq_false_iff_ne]; omega
            have z3 : ((y : Int) == 0) = false := by rw [beq_eq_false_iff_ne]; omega
            rcases Nat.eq_zero_or_pos q with hz | hz
            · have z1 : ¬ (0 : Int) < (q : Int) := by omega
              clear hz
              go_wp2
              erw [Hv.out]
              refine ⟨⟨q + 1, a + y % 128 * 2 ^ (7 * q), by omega, by omega, by go_num, rfl, Hvl.out, trivial, ?_⟩, by simp [intOf]; omega⟩
              rw [HU4.out]
              rfl
            · have z1 : (0 : Int) < (q : Int) := by omega
              clear hz
              go_wp2
              erw [Hv.out]
              refine ⟨⟨q + 1, a + y % 128 * 2 ^ (7 * q), by omega, by omega, by go_num, rfl, Hvl.out, trivial, ?_⟩, by simp [intOf]; omega⟩
              rw [HU4.out]
              rfl
      · have hql : ¬ (q : Int) < ((xs.length - at' : Nat) : Int) := by omega
        have hdr : xs.drop (at' + q) = [] := List.drop_eq_nil_of_le (by omega)
        have hu : uget (xs.drop at') 0 0 = (0, 0, 11) := by rw [HU.out, hdr]; rfl
        have HU3 := Lib.hid hu
        clear hu HU hdr
        go_wp2
        exact bodyPost_ret (v := .tuple #[.int .u64 0, .int .i64 0, .int .i64 11]) (by simp [results, Try.results66, go_sem]) rfl ⟨by rw [HU3.out]; rfl, rfl⟩
end Go.Proofs.Ytalnhdeckdakfaa.Dev
