/-
  holds: the binary search of a set; Has.
-/
import Derived.Test.YtlbfkcgejpboeaaRsD
namespace Go.Proofs.Ytlbfkcgejpboeaa.Rs
open Go.RowKit Go.Proofs Go.Sort
set_option linter.unusedVariables false
set_option linter.unusedSimpArgs false
set_option linter.unusedSectionVars false

theorem closure48_is {x y n z : Int} (hz : z = cmpI x n) (W : World) : Calls Try.prog 48 #[.agg #[.int .i64 x, .int .i64 y], .int .i64 n] W fun e w' => e = .returned (.int .i64 z) ∧ w' = W.alloc (.cells #[.int .i64 x, .int .i64 y] 29) := by
  rw [hz]; exact closure48 x y n W
theorem closure48_grown {x y n z : Int} (hz : z = cmpI x n) (w : World) (q : Nat) (os : Array Obj) : Calls Try.prog 48 #[.agg #[.int .i64 x, .int .i64 y], .int .i64 n] (grow (w.drewN q) os) fun e w'' => e = .returned (.int .i64 z) ∧ ∃ p : GrownBy, w'' = grow (w.drewN p.n) p.os :=
  Calls.grown_of ((closure48_is hz _).mono fun e w' h => ⟨h.1, 0, #[.cells #[.int .i64 x, .int .i64 y] 29], by rw [h.2, alloc_eq_grow]; rfl⟩)
/-- where the search of a sorted list ends -/
def below (l : List R) (n : Int) (k : Nat) : Prop := k ≤ l.length ∧ (∀ j, j < k → (l.getD j (0, 0)).1 < n) ∧ (∀ j, k ≤ j → j < l.length → n ≤ (l.getD j (0, 0)).1)

set_option maxHeartbeats 1000000 in
set_option maxRecDepth 20000 in
theorem search_calls {w : World} {v : Value} {rs : List R} {n : Int} (h : RdR w v rs) (hs : ∀ i j, i ≤ j → j < rs.length → (rs.getD i (0, 0)).1 ≤ (rs.getD j (0, 0)).1) (hl : rs.length ≤ 1000000) :
    Calls Try.prog 47 #[v, .int .i64 n, .func (.func 48) #[] #[]] w fun e w' => ∃ k, below rs n k ∧ e = .returned (.tuple #[.int .i64 (k : Nat), .bool (decide (k < rs.length) && decide ((rs.getD k (0, 0)).1 = n))]) ∧ Below w.heap.size w w' := by
  have H := Lib.hid h
  have Hs := Lib.hid hs
  obtain ⟨a, c, rfl, h1, h2, _⟩ := h
  clear hs
  have hm : Try.prog.follows .mixedOrders = true := by kernel_rfl
  have eg : ∀ args w, (callFunc 48 args).run Try.prog w = .ok (.enter 48 args) w := enters_of Try.func48 (by kernel_rfl) rfl
  go_enter Try.func47, Try.ntmps47
  go_wp2
  go_loopw [9, 10] (fun i j wr => ∃ p q : Nat, p ≤ q ∧ q ≤ rs.length ∧ i = .int .i64 p ∧ j = .int .i64 q ∧ (∀ j, j < p → (rs.getD j (0, 0)).1 < n) ∧ (∀ j, q ≤ j → j < rs.length → n ≤ (rs.getD j (0, 0)).1) ∧ Below w.heap.size w wr) (fun i j _ => (intOf j - intOf i).toNat)
  case atStart => exact ⟨0, rs.length, by omega, by omega, rfl, rfl, fun _ h => by omega, fun _ _ _ => by omega, Below.refl _ _⟩
  case round =>
    obtain ⟨p, q, hpq, hq, rfl, rfl, hA, hB, hb⟩ := hrel
    have HA := Lib.hid hA
    have HB2 := Lib.hid hB
    have HB := Lib.hid hb
    clear hA hB hb
    by_cases hlt : p < q
    · have hd : decide ((p : Int) < (q : Int)) = true := decide_eq_true (by omega)
      have hd' : decide (p < q) = true := decide_eq_true (by omega)
      obtain ⟨g, o, rfl, hc⟩ := H.out.at_ (k := p) (by omega)
      have x0 := cell_of_below HB.out (hc ((p + q) / 2) (by omega)).1
      have x1 := cell_of_below HB.out (hc ((p + q) / 2) (by omega)).2
      have hmid : p ≤ (p + q) / 2 ∧ (p + q) / 2 < q := by omega
      have HsA : Hid ((rs.getD ((p + q) / 2) (0, 0)).1 < n → ∀ j, j < (p + q) / 2 + 1 → (rs.getD j (0, 0)).1 < n) := Lib.hid fun h j hj => Int.lt_of_le_of_lt (Hs.out j _ (by omega) (by omega)) h
      have HsB : Hid (n ≤ (rs.getD ((p + q) / 2) (0, 0)).1 → ∀ j, (p + q) / 2 ≤ j → j < rs.length → n ≤ (rs.getD j (0, 0)).1) := Lib.hid fun h j hj hj2 => Int.le_trans h (Hs.out _ j (by omega) hj2)
      clear hc hd hd'
      generalize rs.getD ((p + q) / 2) (0, 0) = r at *
      obtain ⟨x, y⟩ := r
      obtain ⟨z, hz⟩ : ∃ z, z = cmpI x n := ⟨_, rfl⟩
      have Hc := Lib.hid (fun W => closure48_is (y := y) hz W)
      by_cases hx : x < n
      · have hz1 : z = -1 := by rw [hz, cmpI, if_pos hx]
        clear hz
        subst hz1
        have Hx := Lib.hid (HsA.out hx)
        clear hx
        go_wp2_with (go_at_call 48; refine (Hc.out _).mono ?_; rintro e w' ⟨rfl, rfl⟩)
        refine ⟨⟨(p + q) / 2 + 1, q, by omega, by omega, by go_num, rfl, Hx.out, HB2.out, ?_⟩, by simp [intOf]; omega⟩
        exact below_trans HB.out ((Below.refl _ _).alloc (Nat.le_refl _) _)
      · have hz1 : 0 ≤ z := by rw [hz, cmpI, if_neg hx]; split <;> omega
        have hz2 : decide (z < 0) = false := decide_eq_false (by omega)
        have Hx := Lib.hid (HsB.out (by omega))
        clear hx hz
        go_wp2_with (go_at_call 48; refine (Hc.out _).mono ?_; rintro e w' ⟨rfl, rfl⟩)
        refine ⟨⟨p, (p + q) / 2, by omega, by omega, rfl, by go_num, HA.out, Hx.out, ?_⟩, by simp [intOf]; omega⟩
        exact below_trans HB.out ((Below.refl _ _).alloc (Nat.le_refl _) _)
    · obtain rfl : p = q := by omega
      have Hbel : Hid (below rs n p) := Lib.hid ⟨hq, HA.out, HB2.out⟩
      by_cases hlt2 : p < rs.length
      · have hd : decide ((p : Int) < (rs.length : Int)) = true := decide_eq_true (by omega)
        have hd' : decide (p < rs.length) = true := decide_eq_true (by omega)
        obtain ⟨g, o, rfl, hc⟩ := H.out.at_ (k := p) (by omega)
        have hx0 := cell_of_below HB.out (hc p hlt2).1
        have hx1 := cell_of_below HB.out (hc p hlt2).2
        have Hd := Lib.hid hd'
        clear hc hlt
        have HE : Hid (∀ b, decide ((rs.getD p (0, 0)).1 = n) = b → (decide (p < rs.length) && decide ((rs.getD p (0, 0)).1 = n)) = b) := Lib.hid fun b h => by rw [h, Hd.out]; rfl
        generalize hr : rs.getD p (0, 0) = r at *
        obtain ⟨x, y⟩ := r
        have Hr := Lib.hid hr
        clear hr
        obtain ⟨z, hz⟩ : ∃ z, z = cmpI x n := ⟨_, rfl⟩
        have Hc := Lib.hid (fun W => closure48_is (y := y) hz W)
        have hzz : decide (z = 0) = decide (x = n) := by
          rw [hz, cmpI]
          rw [Bool.eq_iff_iff, decide_eq_true_iff, decide_eq_true_iff]
          split
          · omega
          · split <;> omega
        have Hzz := Lib.hid hzz
        clear hzz hz
        have hp0 : (0 : Int) ≤ (p : Int) := by omega
        have hp1 : (p : Int) < (rs.length : Int) := by omega
        go_wp2_with (go_at_call 48; refine (Hc.out _).mono ?_; rintro e w' ⟨rfl, rfl⟩)
        refine bodyPost_ret (v := .tuple #[.int .i64 (p : Nat), .bool (decide (z = 0))]) (by simp [results, Try.results47, go_sem]; rfl) rfl ⟨p, Hbel.out, ?_, below_trans HB.out ((Below.refl _ _).alloc (Nat.le_refl _) _)⟩
        rw [Hr.out, HE.out _ rfl, Hzz.out]
      · have hd : decide ((p : Int) < (rs.length : Int)) = false := decide_eq_false (by omega)
        have hd' : decide (p < rs.length) = false := decide_eq_false (by omega)
        have Hd := Lib.hid hd'
        clear hlt
        go_wp2
        refine bodyPost_ret (v := .tuple #[.int .i64 (p : Nat), .bool false]) (by simp [results, Try.results47, go_sem]) rfl ⟨p, Hbel.out, ?_, HB.out⟩
        rw [Hd.out, Bool.false_and]

theorem set_sorted {l : List R} (h : IsSet l) : ∀ i j, i ≤ j → j < l.length → (l.getD i (0, 0)).1 ≤ (l.getD j (0, 0)).1 := by
  intro i j hij hj
  have g : ∀ j, (hj : j < l.length) → l.getD j (0, 0) = l[j] := fun j hj => by rw [List.getD_eq_getElem?_getD, List.getElem?_eq_getElem hj]; rfl
  rcases Nat.lt_or_ge i j with e | e
  · have h1 := List.pairwise_iff_getElem.1 h.2 i j (by omega) hj e
    have h2 := (h.1 _ (List.getElem_mem (show i < l.length by omega))).2.1
    rw [g i (by omega), g j hj]; omega
  · obtain rfl : i = j := by omega
    exact Int.le_refl _
theorem holds_plain {l : List R} {n : Int} {k : Nat} (h : IsSet l) (hb : below l n k) :
    memB l n = (decide (k < l.length) && decide ((l.getD k (0, 0)).1 = n) || (decide (0 < k) && decide (n ≤ (l.getD (k - 1) (0, 0)).2))) := by
  have g : ∀ j, (hj : j < l.length) → l.getD j (0, 0) = l[j] := fun j hj => by rw [List.getD_eq_getElem?_getD, List.getElem?_eq_getElem hj]; rfl
  rw [Bool.eq_iff_iff, memB_iff]
  simp only [Bool.or_eq_true, Bool.and_eq_true, decide_eq_true_eq]
  obtain ⟨b1, b2, b3⟩ := hb
  have hp := List.pairwise_iff_getElem.1 h.2
  constructor
  · rintro ⟨r, hr, r1, r2⟩
    obtain ⟨i, hi, rfl⟩ := List.mem_iff_getElem.1 hr
    rcases Nat.lt_or_ge i k with e | e
    · refine .inr ⟨by omega, ?_⟩
      rcases Nat.lt_or_ge i (k - 1) with e2 | e2
      · have := hp i (k - 1) hi (by omega) e2
        have := (h.1 _ (List.getElem_mem (show k - 1 < l.length by omega))).2.1
        rw [g _ (by omega)]; omega
      · obtain rfl : i = k - 1 := by omega
        rw [g _ hi]; exact r2
    · have := b3 i e hi
      rw [g i hi] at this
      have h1 : l[i].1 = n := by omega
      rcases Nat.lt_or_ge k i with e2 | e2
      · have h3 := b3 k (Nat.le_refl _) (by omega)
        rw [g k (by omega)] at h3
        have := hp k i (by omega) hi e2
        have := (h.1 _ (List.getElem_mem (show k < l.length by omega))).2.1
        omega
      · obtain rfl : k = i := by omega
        exact .inl ⟨hi, by rw [g k hi]; exact h1⟩
  · rintro (⟨h1, h2⟩ | ⟨h1, h2⟩)
    · rw [g k h1] at h2
      exact ⟨l[k], List.getElem_mem _, by omega, by have := (h.1 _ (List.getElem_mem h1)).2.1; omega⟩
    · rw [g _ (by omega)] at h2
      have := b2 (k - 1) (by omega)
      rw [g _ (by omega)] at this
      exact ⟨l[k - 1], List.getElem_mem _, by omega, h2⟩

set_option maxHeartbeats 1000000 in
set_option maxRecDepth 20000 in
theorem holds_calls {w : World} {v : Value} {rs : List R} {n : Int} (h : RdR w v rs) (hs : IsSet rs) (hl : rs.length ≤ 1000000) :
    Calls Try.prog 37 #[v, .int .i64 n] w fun e w' => e = .returned (.bool (memB rs n)) ∧ Below w.heap.size w w' := by
  have H := Lib.hid h
  have Hs := Lib.hid hs
  have hc := search_calls (n := n) h (set_sorted hs) hl
  have HC := Lib.hid hc
  obtain ⟨a, c, rfl, h1, h2, _⟩ := h
  clear hs hc
  go_enter Try.func37, Try.ntmps37
  go_wp2_with fail
  refine HC.out.mono ?_
  rintro e w1 ⟨k, hb, rfl, hw⟩
  have HP := Lib.hid (holds_plain Hs.out hb)
  have hbk := hb.1
  have HW := Lib.hid hw
  clear hb hw
  generalize hf : (decide (k < rs.length) && decide ((rs.getD k (0, 0)).1 = n)) = f at *
  clear hf
  cases f with
  | true =>
    go_wp2
    go_ret
    exact ⟨by rw [HP.out]; rfl, HW.out⟩
  | false =>
    rcases Nat.eq_zero_or_pos k with h0 | h0
    · subst h0
      go_wp2
      go_ret
      exact ⟨by rw [HP.out]; rfl, HW.out⟩
    · obtain ⟨m, rfl⟩ : ∃ m, k = m + 1 := ⟨k - 1, by omega⟩
      obtain ⟨g, o, rfl, hc⟩ := H.out.at_ (k := m) (by omega)
      have x1 := cell_of_below HW.out (hc m (by omega)).2
      have hd : decide ((0 : Int) < ((m + 1 : Nat) : Int)) = true := decide_eq_true (by omega)
      have hd' : decide (0 < m + 1) = true := decide_eq_true (by omega)
      have Hd := Lib.hid hd'
      simp only [Nat.add_sub_cancel] at HP
      clear hc h0
      generalize rs.getD m (0, 0) = r at *
      obtain ⟨x, y⟩ := r
      go_wp2
      go_ret
      refine ⟨?_, HW.out⟩
      rw [HP.out, Hd.out]
      rfl
theorem holds_is {w : World} {v : Value} {rs : List R} {n : Int} {b : Bool} (h : RdR w v rs) (hs : IsSet rs) (hl : rs.length ≤ 1000000) (hb : memB rs n = b) :
    Calls Try.prog 37 #[v, .int .i64 n] w fun e w' => e = .returned (.bool b) ∧ Below w.heap.size w w' := by
  rw [← hb]; exact holds_calls h hs hl
theorem chkE_yes {l : List R} (h : IsSet l) : chkE l = 0 := if_pos h
theorem chkE_no {l : List R} (h : ¬ IsSet l) : chkE l = 120 := if_neg h
theorem check_is {w : World} {v : Value} {rs : List R} {e0 : Int} (h : RdR w v rs) (he : chkE rs = e0) :
    Calls Try.prog 15 #[v] w fun e w' => e = .returned (.int .i64 e0) ∧ Below w.heap.size w w' := by
  rw [← he]; exact check_calls h
set_option maxHeartbeats 1000000 in
theorem has_calls {w : World} {v : Value} {rs : List R} {n : Int} (h : RdR w v rs) (hl : rs.length ≤ 1000000) :
    Calls Try.prog 18 #[v, .int .i64 n] w fun e w' => e = .returned (.bool (decide (IsSet rs) && memB rs n)) ∧ Below w.heap.size w w' := by
  have H := Lib.hid h
  obtain ⟨a, c, rfl, h1, h2, _⟩ := h
  by_cases hs : IsSet rs
  · have hd : decide (IsSet rs) = true := decide_eq_true hs
    rw [hd, Bool.true_and]
    have Hs := Lib.hid hs
    clear hs hd
    generalize hb : memB rs n = b
    have Hb := Lib.hid hb
    clear hb
    go_enter Try.func18, Try.ntmps18
    go_wp2_with fail
    refine (check_is H.out (chkE_yes Hs.out)).mono ?_
    rintro e w1 ⟨rfl, hw⟩
    have HW := Lib.hid hw
    clear hw
    go_wp2_with fail
    refine (holds_is (H.out.below HW.out) Hs.out hl Hb.out).mono ?_
    rintro e w2 ⟨rfl, hw⟩
    have HW2 := Lib.hid (below_trans HW.out hw)
    clear hw
    go_wp2
    go_ret
    exact ⟨rfl, HW2.out⟩
  · have hd : decide (IsSet rs) = false := decide_eq_false hs
    rw [hd, Bool.false_and]
    have Hs := Lib.hid hs
    clear hs hd
    go_enter Try.func18, Try.ntmps18
    go_wp2_with fail
    refine (check_is H.out (chkE_no Hs.out)).mono ?_
    rintro e w1 ⟨rfl, hw⟩
    have HW := Lib.hid hw
    clear hw
    go_wp2
    go_ret
    exact ⟨rfl, HW.out⟩
end Go.Proofs.Ytlbfkcgejpboeaa.Rs
