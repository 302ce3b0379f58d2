/-
  The law RevsetMembers, walked.
-/
import Derived.Test.YtlbfkcgejpboeaaRsS
namespace Go.Proofs.Ytlbfkcgejpboeaa.Rs
open Go.RowKit Go.Proofs Go.Sort
set_option linter.unusedVariables false
set_option linter.unusedSimpArgs false
set_option linter.unusedSectionVars false

set_option maxHeartbeats 4000000 in
set_option maxRecDepth 100000 in
theorem lmembers_big {w : World} {va : Value} {a : List R} {most n : Int} (ha : RdR w va a) (hd : (decide (40 < a.length)) = true) :
    Calls Try.prog 5 #[va, .int .i64 most, .int .i64 n] w fun e w' => e = .returned (.bool true) ∧ RowKit.Below w.heap.size w w' := by
  have Ha := Lib.hid ha
  have Hhd := Lib.hid hd
  obtain ⟨Aa, ca, rfl, _⟩ := ha
  clear hd
  go_enter Try.func5, Try.ntmps5
  have HB0 := Lib.hid (RowKit.Below.refl w.heap.size w)
  go_wp2_with fail
  have hb : RowKit.Below w.heap.size w (w.alloc (Obj.cells #[Value.slice Aa a.length ca] 22)) := (RowKit.Below.refl _ _).alloc (Nat.le_refl _) _
  have k0 : (w.alloc (Obj.cells #[Value.slice Aa a.length ca] 22)).cell? ⟨w.heap.size, 0, none⟩ = some (Value.slice Aa a.length ca) := by go_simp
  generalize w.alloc (Obj.cells #[Value.slice Aa a.length ca] 22) = w1 at *
  have HB1 := Lib.hid (below_trans HB0.out hb)
  clear hb HB0
  go_wp2_with fail
  refine (many1 (Ha.out.below HB1.out) k0).mono ?_
  rintro e _ ⟨rfl, rfl⟩
  rw [Hhd.out]
  clear k0
  go_wp2_with fail
  refine (awake_calls _).mono ?_
  rintro e w2 ⟨rfl, hb⟩
  have HB2 := Lib.hid (below_trans HB1.out hb)
  clear hb HB1
  go_wp2
  go_ret
  exact ⟨rfl, HB2.out⟩
set_option maxHeartbeats 4000000 in
set_option maxRecDepth 100000 in
theorem lmembers_far {w : World} {va : Value} {a : List R} {most n : Int} (ha : RdR w va a) (hd : (decide (40 < a.length)) = false) (hm : 2000 < most) :
    Calls Try.prog 5 #[va, .int .i64 most, .int .i64 n] w fun e w' => e = .returned (.bool true) ∧ RowKit.Below w.heap.size w w' := by
  have Ha := Lib.hid ha
  have Hhd := Lib.hid hd
  obtain ⟨Aa, ca, rfl, _⟩ := ha
  clear hd
  have hm1 : decide ((2000 : Int) < most) = true := decide_eq_true hm
  go_enter Try.func5, Try.ntmps5
  have HB0 := Lib.hid (RowKit.Below.refl w.heap.size w)
  go_wp2_with fail
  have hb : RowKit.Below w.heap.size w (w.alloc (Obj.cells #[Value.slice Aa a.length ca] 22)) := (RowKit.Below.refl _ _).alloc (Nat.le_refl _) _
  have k0 : (w.alloc (Obj.cells #[Value.slice Aa a.length ca] 22)).cell? ⟨w.heap.size, 0, none⟩ = some (Value.slice Aa a.length ca) := by go_simp
  generalize w.alloc (Obj.cells #[Value.slice Aa a.length ca] 22) = w1 at *
  have HB1 := Lib.hid (below_trans HB0.out hb)
  clear hb HB0
  go_wp2_with fail
  refine (many1 (Ha.out.below HB1.out) k0).mono ?_
  rintro e _ ⟨rfl, rfl⟩
  rw [Hhd.out]
  clear k0
  go_wp2_with fail
  refine (awake_calls _).mono ?_
  rintro e w2 ⟨rfl, hb⟩
  have HB2 := Lib.hid (below_trans HB1.out hb)
  clear hb HB1
  go_wp2
  go_ret
  exact ⟨rfl, HB2.out⟩
set_option maxHeartbeats 4000000 in
set_option maxRecDepth 100000 in
theorem lmembers_no {w : World} {va : Value} {a : List R} {most n : Int} (ha : RdR w va a) (hd : (decide (40 < a.length)) = false) (hl : a.length ≤ 40) (hm : most ≤ 2000) (hs : ¬ IsSet a) :
    Calls Try.prog 5 #[va, .int .i64 most, .int .i64 n] w fun e w' => e = .returned (.bool true) ∧ RowKit.Below w.heap.size w w' := by
  have Ha := Lib.hid ha
  have Hhd := Lib.hid hd
  have Hhs := Lib.hid hs
  obtain ⟨Aa, ca, rfl, _⟩ := ha
  clear hd hs
  have hm1 : decide ((2000 : Int) < most) = false := decide_eq_false (by omega)
  go_enter Try.func5, Try.ntmps5
  have HB0 := Lib.hid (RowKit.Below.refl w.heap.size w)
  go_wp2_with fail
  have hb : RowKit.Below w.heap.size w (w.alloc (Obj.cells #[Value.slice Aa a.length ca] 22)) := (RowKit.Below.refl _ _).alloc (Nat.le_refl _) _
  have k0 : (w.alloc (Obj.cells #[Value.slice Aa a.length ca] 22)).cell? ⟨w.heap.size, 0, none⟩ = some (Value.slice Aa a.length ca) := by go_simp
  generalize w.alloc (Obj.cells #[Value.slice Aa a.length ca] 22) = w1 at *
  have HB1 := Lib.hid (below_trans HB0.out hb)
  clear hb HB0
  go_wp2_with fail
  refine (many1 (Ha.out.below HB1.out) k0).mono ?_
  rintro e _ ⟨rfl, rfl⟩
  rw [Hhd.out]
  clear k0
  go_wp2_with fail
  refine (check_is (Ha.out.below HB1.out) (chkE_no Hhs.out)).mono ?_
  rintro e w2 ⟨rfl, hb⟩
  have HB2 := Lib.hid (below_trans HB1.out hb)
  clear hb HB1
  go_wp2_with fail
  refine (awake_calls _).mono ?_
  rintro e w3 ⟨rfl, hb⟩
  have HB3 := Lib.hid (below_trans HB2.out hb)
  clear hb HB2
  go_wp2
  go_ret
  exact ⟨rfl, HB3.out⟩
theorem take_lt {E : List Int} (h : E.Pairwise (· < ·)) {m k : Nat} (hk : k + 1 < (E.take m).length) : (E.take m).getD k 0 < (E.take m).getD (k + 1) 0 := by
  have h2 : (E.take m).Pairwise (· < ·) := h.sublist (List.take_sublist _ _)
  generalize E.take m = F at *
  have g : ∀ j, (hj : j < F.length) → F.getD j 0 = F[j] := fun j hj => by rw [List.getD_eq_getElem?_getD, List.getElem?_eq_getElem hj]; rfl
  rw [g k (by omega), g (k + 1) hk]
  exact List.pairwise_iff_getElem.1 h2 k (k + 1) (by omega) hk (by omega)
theorem last_in {E : List Int} (h : E.Pairwise (· < ·)) {m : Nat} {n : Int} (h0 : 0 < (E.take m).length) (hn : n ≤ (E.take m).getD ((E.take m).length - 1) 0) : n ∈ E.take m ↔ n ∈ E := by
  refine ⟨fun h => List.mem_of_mem_take h, fun hE => ?_⟩
  obtain ⟨i, hi, rfl⟩ := List.mem_iff_getElem.1 hE
  have g : ∀ j, (hj : j < (E.take m).length) → (E.take m).getD j 0 = E[j]'(by rw [List.length_take] at hj; omega) := fun j hj => by
    rw [List.getD_eq_getElem?_getD, List.getElem?_eq_getElem hj, List.getElem_take]; rfl
  rw [g _ (by omega)] at hn
  have hlen : (E.take m).length = min m E.length := List.length_take
  rcases Nat.lt_or_ge i m with e | e
  · exact List.mem_iff_getElem.2 ⟨i, by omega, by rw [List.getElem_take]⟩
  · exfalso
    have := List.pairwise_iff_getElem.1 h ((E.take m).length - 1) i (by omega) hi (by omega)
    omega
theorem past_in {E : List Int} (h : E.Pairwise (· < ·)) {m : Nat} {n : Int} (hn : (E.take m).length = 0 ∨ (E.take m).getD ((E.take m).length - 1) 0 < n) : n ∉ E.take m := by
  have h2 : (E.take m).Pairwise (· < ·) := h.sublist (List.take_sublist _ _)
  generalize E.take m = F at *
  intro hE
  obtain ⟨i, hi, rfl⟩ := List.mem_iff_getElem.1 hE
  have g : ∀ j, (hj : j < F.length) → F.getD j 0 = F[j] := fun j hj => by rw [List.getD_eq_getElem?_getD, List.getElem?_eq_getElem hj]; rfl
  rcases hn with hn | hn
  · omega
  · rw [g _ (by omega)] at hn
    rcases Nat.lt_or_ge i (F.length - 1) with e | e
    · have := List.pairwise_iff_getElem.1 h2 i (F.length - 1) hi (by omega) e; omega
    · have : i = F.length - 1 := by omega
      subst this; omega
theorem in_succ {xs : List Int} {n : Int} {k : Nat} (h : k < xs.length) : decide (n ∈ xs.take (k + 1)) = (decide (n ∈ xs.take k) || decide (xs.getD k 0 = n)) := by
  rw [take_snoc xs k 0 h, Bool.eq_iff_iff]
  simp only [Bool.or_eq_true, decide_eq_true_eq, List.mem_append, List.mem_singleton]
  exact or_congr Iff.rfl eq_comm
set_option maxHeartbeats 4000000 in
set_option maxRecDepth 100000 in
theorem lmembers_yes {w : World} {va : Value} {a : List R} {most n : Int} (ha : RdR w va a) (hd : (decide (40 < a.length)) = false) (hl : a.length ≤ 40) (hm : most ≤ 2000) (hs : IsSet a) (x : Int) (hx : countR a = x) :
    Calls Try.prog 5 #[va, .int .i64 most, .int .i64 n] w fun e w' => e = .returned (.bool true) ∧ RowKit.Below w.heap.size w w' := by
  have Ha := Lib.hid ha
  have Hhd := Lib.hid hd
  have Hhs := Lib.hid hs
  have Hhx := Lib.hid hx
  obtain ⟨Aa, ca, rfl, _⟩ := ha
  clear hd hs hx
  have hm1 : decide ((2000 : Int) < most) = false := decide_eq_false (by omega)
  have hxl := expand_len Hhs.out.1
  rw [Hhx.out] at hxl
  obtain ⟨lo, up⟩ := countR_bound Hhs.out.1
  rw [Hhx.out] at lo up
  have hup : x ≤ 1000000000000 := by omega
  clear up
  have HSo := Lib.hid (expand_sorted Hhs.out)
  have HMe : Hid (∀ y, y ∈ expand a → memB a y = true) := Lib.hid fun y hy => memB_iff.2 (mem_expand.1 hy)
  have HMn : Hid (decide (n ∈ expand a) = memB a n) := Lib.hid (by rw [Bool.eq_iff_iff, decide_eq_true_iff, mem_expand, memB_iff])
  have hlx : (((expand a).take most.toNat).length : Int) = if x < (if most < 0 then 0 else most) then x else (if most < 0 then 0 else most) := by
    rw [List.length_take]; split <;> split <;> omega
  have Hlx := Lib.hid hlx
  have hlx2 : ((expand a).take most.toNat).length ≤ 2000 := by rw [List.length_take]; omega
  clear hlx hxl
  go_enter Try.func5, Try.ntmps5
  have HB0 := Lib.hid (RowKit.Below.refl w.heap.size w)
  go_wp2_with fail
  have hb : RowKit.Below w.heap.size w (w.alloc (Obj.cells #[Value.slice Aa a.length ca] 22)) := (RowKit.Below.refl _ _).alloc (Nat.le_refl _) _
  have k0 : (w.alloc (Obj.cells #[Value.slice Aa a.length ca] 22)).cell? ⟨w.heap.size, 0, none⟩ = some (Value.slice Aa a.length ca) := by go_simp
  generalize w.alloc (Obj.cells #[Value.slice Aa a.length ca] 22) = w1 at *
  have HB1 := Lib.hid (below_trans HB0.out hb)
  clear hb HB0
  go_wp2_with fail
  refine (many1 (Ha.out.below HB1.out) k0).mono ?_
  rintro e _ ⟨rfl, rfl⟩
  rw [Hhd.out]
  clear k0
  go_wp2_with fail
  refine (check_is (Ha.out.below HB1.out) (chkE_yes Hhs.out)).mono ?_
  rintro e w2 ⟨rfl, hb⟩
  have HB2 := Lib.hid (below_trans HB1.out hb)
  clear hb HB1
  go_wp2_with fail
  refine (members_calls (most := most) (Ha.out.below HB2.out) Hhs.out (by omega) hm).mono ?_
  rintro e w3 ⟨z, rfl, hr, hb⟩
  have HZ_3 := Lib.hid hr
  have HB3 := Lib.hid (below_trans HB2.out hb)
  clear hb HB2 hr
  go_wp2_with fail
  refine (count_is (Ha.out.below HB3.out) Hhs.out (by omega) Hhx.out).mono ?_
  rintro e w4 ⟨rfl, hb⟩
  have HZ_4 := Lib.hid (HZ_3.out.below hb)
  have HB4 := Lib.hid (below_trans HB3.out hb)
  clear hb HB3 HZ_3
  have Hlt := Lib.hid (fun k hk => take_lt HSo.out (m := most.toNat) (k := k) hk)
  have Hla := Lib.hid (fun h0 hn => last_in HSo.out (m := most.toNat) (n := n) h0 hn)
  have Hpa := Lib.hid (fun hn => past_in HSo.out (m := most.toNat) (n := n) hn)
  have Hxm : Hid (∀ y, y ∈ (expand a).take most.toNat → memB a y = true) := Lib.hid fun y hy => HMe.out y (List.mem_of_mem_take hy)
  obtain ⟨Az, cz, he, h1z, h2z, _⟩ := HZ_4.out
  subst he
  clear HSo HMe
  generalize (expand a).take most.toNat = xs at *
  have hne : ((xs.length : Int) != min (max most 0) x) = false := by
    have h1 := Hlx.out
    have h2 : (xs.length : Int) = min (max most 0) x := by rw [h1]; split <;> split <;> omega
    simp [h2]
  go_wp2
  clear hne Hlx
  generalize min (max most 0) x = dead1 at *
  generalize max most 0 = dead2 at *
  go_loopw [11, 55] (fun c i wr => ∃ k : Nat, k ≤ xs.length ∧ i = .int .i64 k ∧ c = .bool (decide (n ∈ xs.take k)) ∧ RowKit.Below w4.heap.size w4 wr) (fun _ i _ => xs.length - (intOf i).toNat)
  case atStart => exact ⟨0, Nat.zero_le _, rfl, by simp, RowKit.Below.refl _ _⟩
  case round =>
    obtain ⟨k, hk, rfl, rfl, hb⟩ := hrel
    have HBk := Lib.hid hb
    have HBt := Lib.hid (below_trans HB4.out hb)
    clear hb
    by_cases hlt : k < xs.length
    · obtain ⟨g1, o1, e1, hc1⟩ := HZ_4.out.at_ hlt
      subst e1
      have x1 := cell_of_below HBk.out (hc1 k hlt)
      have Hin := Lib.hid (in_succ (n := n) hlt)
      have Hp := Lib.hid (Hxm.out (xs.getD k 0) (by rw [List.getD_eq_getElem?_getD, List.getElem?_eq_getElem hlt]; exact List.getElem_mem hlt))
      have hk0 : (0 : Int) ≤ (k : Int) := by omega
      have hk1 : (k : Int) < (xs.length : Int) := by omega
      rcases Nat.eq_zero_or_pos k with h0 | h0
      · have hd0 : decide ((0 : Int) < (k : Int)) = false := decide_eq_false (by omega)
        have hd1 : decide (0 < k) = false := decide_eq_false (by omega)
        clear hc1 h0
        generalize decide (n ∈ xs.take k) = b at *
        generalize xs.getD k 0 = y at *
        go_wp2_with fail
        refine (has_is (Ha.out.below HBt.out) Hhs.out (by omega) Hp.out).mono ?_
        rintro e we ⟨rfl, hb⟩
        have HBe := Lib.hid (below_trans HBk.out hb)
        clear hb
        cases b
        all_goals by_cases hy : y = n
        all_goals
          have hye : (y == n) = decide (y = n) := rfl
          first | (rw [decide_eq_true hy] at hye Hin) | (rw [decide_eq_false hy] at hye Hin)
          clear hy
          go_wp2
          exact ⟨⟨k + 1, by omega, by go_num, by rw [Hin.out]; rfl, HBe.out⟩, by simp [intOf]; omega⟩
      · obtain ⟨m, rfl⟩ : ∃ m, k = m + 1 := ⟨k - 1, by omega⟩
        have hd0 : decide ((0 : Int) < ((m + 1 : Nat) : Int)) = true := decide_eq_true (by omega)
        have hd1 : decide (0 < m + 1) = true := decide_eq_true (by omega)
        have x0 := cell_of_below HBk.out (hc1 m (by omega))
        have hlt2 := Hlt.out m hlt
        have hd2 : decide (xs.getD (m + 1) 0 ≤ xs.getD m 0) = false := decide_eq_false (by omega)
        clear hc1 h0 hlt2
        generalize decide (n ∈ xs.take (m + 1)) = b at *
        generalize xs.getD (m + 1) 0 = y at *
        generalize xs.getD m 0 = y0 at *
        go_wp2_with fail
        refine (has_is (Ha.out.below HBt.out) Hhs.out (by omega) Hp.out).mono ?_
        rintro e we ⟨rfl, hb⟩
        have HBe := Lib.hid (below_trans HBk.out hb)
        clear hb
        cases b
        all_goals by_cases hy : y = n
        all_goals
          have hye : (y == n) = decide (y = n) := rfl
          first | (rw [decide_eq_true hy] at hye Hin) | (rw [decide_eq_false hy] at hye Hin)
          clear hy
          go_wp2
          exact ⟨⟨m + 1 + 1, by omega, by go_num, by rw [Hin.out]; rfl, HBe.out⟩, by simp [intOf]; omega⟩
    · have hkk : xs.take k = xs := List.take_of_length_le (by omega)
      rw [hkk]
      clear hkk
      rcases Nat.eq_zero_or_pos xs.length with h0 | h0
      · have hno : decide (n ∈ xs) = false := decide_eq_false (Hpa.out (.inl h0))
        rw [hno]
        have hz : ((xs.length : Int) == 0) = true := by simp [h0]
        have hz2 : (xs.length == 0) = true := by simp [h0]
        clear hno h0
        go_wp2_with fail
        refine (awake_calls _).mono ?_
        rintro e we ⟨rfl, hb⟩
        have HBe := Lib.hid (below_trans HBt.out hb)
        clear hb
        go_wp2
        go_ret
        exact ⟨rfl, HBe.out⟩
      · have hz : ((xs.length : Int) == 0) = false := by rw [beq_eq_false_iff_ne]; omega
        have hz2 : (xs.length == 0) = false := by rw [beq_eq_false_iff_ne]; omega
        obtain ⟨g1, o1, e1, hc1⟩ := HZ_4.out.at_ (k := xs.length - 1) (by omega)
        subst e1
        have x1 := cell_of_below HBk.out (hc1 (xs.length - 1) (by omega))
        obtain ⟨m, hm2⟩ : ∃ m, xs.length = m + 1 := ⟨xs.length - 1, by omega⟩
        rw [hm2] at x1 Hpa Hla hz hz2 hk hlt ⊢
        simp only [Nat.add_sub_cancel] at x1 Hpa Hla
        have hml : m ≤ 2000 := by omega
        clear hc1 hm2 h0
        by_cases hn : xs.getD m 0 < n
        · have hd : decide (xs.getD m 0 < n) = true := decide_eq_true hn
          have hno : decide (n ∈ xs) = false := decide_eq_false (Hpa.out (.inr hn))
          rw [hno]
          clear hno hn
          generalize xs.getD m 0 = y at *
          go_wp2_with fail
          refine (awake_calls _).mono ?_
          rintro e we ⟨rfl, hb⟩
          have HBe := Lib.hid (below_trans HBt.out hb)
          clear hb
          go_wp2
          go_ret
          exact ⟨rfl, HBe.out⟩
        · have hd : decide (xs.getD m 0 < n) = false := decide_eq_false hn
          have hin : decide (n ∈ xs) = memB a n := by
            rw [← HMn.out, Bool.eq_iff_iff, decide_eq_true_iff, decide_eq_true_iff]
            exact Hla.out (by omega) (by omega)
          rw [hin]
          obtain ⟨pb, hpb⟩ : ∃ pb, memB a n = pb := ⟨_, rfl⟩
          rw [hpb]
          have Hpb := Lib.hid hpb
          clear hin hn hpb
          generalize xs.getD m 0 = y at *
          cases pb
          all_goals
            go_wp2_with fail
            refine (has_is (Ha.out.below HBt.out) Hhs.out (by omega) Hpb.out).mono ?_
            rintro e we ⟨rfl, hb⟩
            have HBe := Lib.hid (below_trans HBt.out hb)
            clear hb
            go_wp2_with fail
            refine (awake_calls _).mono ?_
            rintro e wf ⟨rfl, hb⟩
            have HBf := Lib.hid (below_trans HBe.out hb)
            clear hb
            go_wp2
            go_ret
            exact ⟨rfl, HBf.out⟩
theorem lmembers_walk {w : World} {va : Value} {a : List R} {most n : Int} (ha : RdR w va a) :
    Calls Try.prog 5 #[va, .int .i64 most, .int .i64 n] w fun e w' => e = .returned (.bool true) ∧ RowKit.Below w.heap.size w w' := by
  by_cases hbig : 40 < a.length
  · exact lmembers_big ha (by simpa using hbig)
  · have hd : decide (40 < a.length) = false := decide_eq_false hbig
    by_cases hm : 2000 < most
    · exact lmembers_far ha hd hm
    · by_cases hs : IsSet a
      · exact lmembers_yes ha hd (by omega) (by omega) hs _ rfl
      · exact lmembers_no ha hd (by omega) (by omega) hs
end Go.Proofs.Ytlbfkcgejpboeaa.Rs
