/-
  DeviceTorn, walked: the law's function returns true and writes nothing elder.
-/
import Derived.Test.YtjcjgeneehhgbaaDevL
namespace Go.Proofs.Ytjcjgeneehhgbaa.Dev
open Go.RowKit Go.Proofs
set_option linter.unusedVariables false
set_option linter.unusedSectionVars false
set_option linter.unusedSimpArgs false
variable [Bs]

theorem fuel0 {dur now : FS} {pend : List Op} {down : Bool} (h : pend.length ≤ 100000) : Fuel ⟨dur, now, pend, 0, down⟩ := ⟨Int.le_refl _, by show (0 : Int) ≤ 1000000; decide, h⟩
theorem torn_s1 {a : List Int} (ha : a.length ≤ 65536) : DS.new.create kA a = (⟨[], [(kA, a)], [⟨1, kA, ⟨#[]⟩, a⟩], 0, false⟩, 0) := by
  rw [create_ok (by kernel_rfl) (by omega) (leb (by kernel_rfl)), perform_zero rfl]
  kernel_rfl
theorem torn_s2 (a : List Int) : DS.sync ⟨[], [(kA, a)], [⟨1, kA, ⟨#[]⟩, a⟩], 0, false⟩ = (⟨[(kA, a)], [(kA, a)], [], 0, false⟩, 0) := by
  rw [sync_zero rfl rfl]
  kernel_rfl
theorem torn_s3a {a b : List Int} (ha : a.length ≤ 65536) (hb : b.length ≤ 65536) : DS.append ⟨[(kA, a)], [(kA, a)], [], 0, false⟩ kA b = (⟨[(kA, a)], [(kA, a ++ b)], [⟨2, kA, ⟨#[]⟩, b⟩], 0, false⟩, 0) := by
  have hg : (FS.get [(kA, a)] kA) = some a := by kernel_rfl
  have h1 := append_ok (d := ⟨[(kA, a)], [(kA, a)], [], 0, false⟩) (k := kA) (b := b) (by kernel_rfl) (by show ((FS.get [(kA, a)] kA).getD []).length + b.length ≤ 4194304; rw [hg]; simp only [Option.getD_some]; omega)
  have hg2 : (FS.get [(kA, a)] kA).getD [] = a := by kernel_rfl
  rw [h1, perform_zero rfl]
  show ((⟨[(kA, a)], [(kA, ((FS.get [(kA, a)] kA).getD []) ++ b)], [⟨2, kA, ⟨#[]⟩, b⟩], 0, false⟩ : DS), (0 : Int)) = _
  rw [hg2]
theorem torn_s3c {a b : List Int} (hb : b.length ≤ 65536) : DS.create ⟨[(kA, a)], [(kA, a)], [], 0, false⟩ kA b = (⟨[(kA, a)], [(kA, b)], [⟨1, kA, ⟨#[]⟩, b⟩], 0, false⟩, 0) := by
  rw [create_ok (by kernel_rfl) (by omega) (leb (by kernel_rfl)), perform_zero rfl]
  kernel_rfl
def tornX (a b : List Int) (torn : Int) (add : Bool) : List Int := if 0 ≤ torn then (if add then a else []) ++ b.take (min torn b.length).toNat else a
theorem torn_kept (a b : List Int) (torn : Int) (add : Bool) (now : FS) :
    DS.kept ⟨[(kA, a)], now, [⟨if add then 2 else 1, kA, ⟨#[]⟩, b⟩], 0, false⟩ 0 torn = if 0 ≤ torn then [⟨if add then 2 else 1, kA, ⟨#[]⟩, b.take (min torn b.length).toNat⟩] else [] := by
  have h : DS.keep ⟨[(kA, a)], now, [⟨if add then 2 else 1, kA, ⟨#[]⟩, b⟩], 0, false⟩ 0 = 0 := by simp only [DS.keep, List.length_cons, List.length_nil]; omega
  unfold DS.kept
  rw [h]
  cases add <;> simp [Op.cut, Op.writes]
theorem torn_s4 (a b : List Int) (torn : Int) (add : Bool) (now : FS) :
    DS.lose ⟨[(kA, a)], now, [⟨if add then 2 else 1, kA, ⟨#[]⟩, b⟩], 0, false⟩ 0 torn = ⟨[(kA, tornX a b torn add)], [(kA, tornX a b torn add)], [], 0, true⟩ := by
  unfold DS.lose
  rw [torn_kept]
  by_cases h : 0 ≤ torn
  · rw [if_pos h]
    cases add with
    | true => simp only [tornX, if_pos h]; kernel_rfl
    | false => simp only [tornX, if_pos h]; kernel_rfl
  · rw [if_neg h]
    simp only [tornX, if_neg h]
    kernel_rfl
theorem torn_fits {a b : List Int} (ha : a.length ≤ 65536) (hb : b.length ≤ 65536) (torn : Int) (add : Bool) (now : FS) :
    Fits [(kA, a)] (DS.kept ⟨[(kA, a)], now, [⟨if add then 2 else 1, kA, ⟨#[]⟩, b⟩], 0, false⟩ 0 torn) := by
  rw [torn_kept]
  have hg : (FS.get [(kA, a)] kA) = some a := by kernel_rfl
  split
  · have hok : (⟨if add then 2 else 1, kA, ⟨#[]⟩, b.take (min torn b.length).toNat⟩ : Op).ok := by cases add with
      | true => exact .inr (.inl rfl)
      | false => exact .inl rfl
    refine Fits.cons hok ?_ (Fits.nil _)
    show ((FS.get [(kA, a)] kA).getD []).length + (List.take _ b).length ≤ _
    rw [hg, List.length_take]
    simp only [Option.getD_some]; omega
  · exact Fits.nil _

theorem torn_min (n : Nat) (torn : Int) : (if 0 < (if (n : Int) < torn then (n : Int) else torn) then (if (n : Int) < torn then (n : Int) else torn) else 0) = ((max 0 (min torn n)).toNat : Int) := by
  split <;> split at * <;> omega
theorem tornX_add (a b : List Int) (torn : Int) : tornX a b torn true = a ++ b.take (max 0 (min torn (b.length : Int))).toNat := by
  unfold tornX
  by_cases h : 0 ≤ torn
  · have e : (max 0 (min torn (b.length : Int))).toNat = (min torn (b.length : Int)).toNat := by omega
    simp [h, e]
  · have e : (max 0 (min torn (b.length : Int))).toNat = 0 := by omega
    simp [h, e]
theorem tornX_new (a b : List Int) (torn : Int) (h : 0 ≤ torn) : tornX a b torn false = b.take (max 0 (min torn (b.length : Int))).toNat := by
  have e : (max 0 (min torn (b.length : Int))).toNat = (min torn (b.length : Int)).toNat := by omega
  simp [tornX, h, e]
theorem tornX_old (a b : List Int) (torn : Int) (h : ¬ 0 ≤ torn) : tornX a b torn false = a := by simp [tornX, h]

theorem torn_s5 (x : List Int) : DS.restart ⟨[(kA, x)], [(kA, x)], [], 0, true⟩ = ⟨[(kA, x)], [(kA, x)], [], 0, false⟩ := by kernel_rfl
theorem torn_s6 (x : List Int) : DS.read ⟨[(kA, x)], [(kA, x)], [], 0, false⟩ kA = (x, 0) := by kernel_rfl
theorem torn_s7 {x : List Int} {dur : FS} {pend : List Op} {down : Bool} (h : x.length ≤ 4194304) : (((DS.mk dur [(kA, x)] pend 0 down).now.get kA).getD []).length ≤ 4194304 := by
  have : ((DS.mk dur [(kA, x)] pend 0 down).now.get kA).getD [] = x := by kernel_rfl
  rw [this]; exact h
theorem tornX_len {a b : List Int} (ha : a.length ≤ 65536) (hb : b.length ≤ 65536) (torn : Int) (add : Bool) : (tornX a b torn add).length ≤ 4194304 := by
  unfold tornX
  split
  · cases add <;> simp <;> omega
  · omega

set_option maxHeartbeats 4000000 in
set_option maxRecDepth 100000 in
theorem torn_walk {w : World} (hB : Bs.n = w.heap.size) {va vb : Value} {a b : List Int} (hva : Rd w va a) (hvb : Rd w vb b) (torn : Int) (add : Bool) :
    Calls Try.prog 3 #[va, vb, .int .i64 torn, .bool add] w fun e w' => e = .returned (.bool true) ∧ Below w.heap.size w w' := by
  have Hva := Lib.hid hva
  have Hvb := Lib.hid hvb
  obtain ⟨A0, c0, rfl, _⟩ := hva
  obtain ⟨A1, c1, rfl, hb1, hb2, _⟩ := hvb
  have hBe : Bs.n ≤ w.heap.size := Nat.le_of_eq hB
  by_cases ha : 65536 < a.length
  · have hd : decide ((65536 : Int) < (a.length : Int)) = true := by simp; omega
    go_enter Try.func3, Try.ntmps3
    go_wp2
    go_ret
    exact ⟨rfl, Below.refl _ _⟩
  by_cases hb : 65536 < b.length
  · have hd : decide ((65536 : Int) < (a.length : Int)) = false := by simp; omega
    have hd2 : decide ((65536 : Int) < (b.length : Int)) = true := by simp; omega
    go_enter Try.func3, Try.ntmps3
    go_wp2
    go_ret
    exact ⟨rfl, Below.refl _ _⟩
  have hd : decide ((65536 : Int) < (a.length : Int)) = false := by simp; omega
  have hd2 : decide ((65536 : Int) < (b.length : Int)) = false := by simp; omega
  have hal : a.length ≤ 65536 := by omega
  have hbl : b.length ≤ 65536 := by omega
  have hmin := torn_min b.length torn
  have hml : (max 0 (min torn (b.length : Int))).toNat ≤ b.length := by omega
  have Hx1 := Lib.hid (tornX_add a b torn)
  have Hx2 := Lib.hid (tornX_new a b torn)
  have Hx3 := Lib.hid (tornX_old a b torn)
  generalize (max 0 (min torn (b.length : Int))).toNat = m at *
  have hmc : m ≤ c1 := by omega
  generalize hmm : (if (b.length : Int) < torn then (b.length : Int) else torn) = mm at hmin
  have Hmin := Lib.hid hmin
  have Hmm := Lib.hid hmm
  clear ha hb hb1 hmin hmm
  go_enter Try.func3, Try.ntmps3
  go_wp2_with fail
  refine (new_N w hBe).mono ?_
  rintro e w1 ⟨d, rfl, hN, hu⟩
  have HN1 := Lib.hid hN
  have Hu1 := Lib.hid hu
  have hle1 : Bs.n ≤ w1.heap.size := by obtain ⟨_, _, _, h⟩ := hN; exact Nat.le_trans hBe h.size
  clear hN hu
  go_wp2_with fail
  refine (known_calls w1 hle1).mono ?_
  rintro e w2 ⟨rfl, hb⟩
  have HN2 := Lib.hid (HN1.out.below hb).1
  have Hu2 := Lib.hid (Hu1.out.trans (U8.below hb))
  clear hb HN1 Hu1
  go_wp2_with fail
  refine (create_N HN2.out (torn_s1 hal) (fuel0 (leb (by kernel_rfl))) (Hu2.out _ _ Hva.out) (leb (by kernel_rfl)) (by omega) (leb (by kernel_rfl)) (leb (by kernel_rfl))).mono ?_
  rintro e w3 ⟨rfl, hN, hu⟩
  have HN3 := Lib.hid hN
  have Hu3 := Lib.hid (Hu2.out.trans hu)
  clear hN hu HN2 Hu2
  go_wp2_with fail
  refine (sync_N HN3.out (torn_s2 a) (fuel0 (leb (by kernel_rfl))) (Fits.cons (.inl rfl) (by show ([] : List Int).length + a.length ≤ _; simp only [List.length_nil]; omega) (Fits.nil _))).mono ?_
  rintro e w4 ⟨rfl, hN, hu⟩
  have HN4 := Lib.hid hN
  have Hu4 := Lib.hid (Hu3.out.trans hu)
  clear hN hu HN3 Hu3
  have hmin := Hmin.out
  have hmm := Hmm.out
  have hga : (((DS.mk [(kA, a)] [(kA, a)] [] 0 false).now.get kA).getD []).length ≤ 4194304 := by
    have : ((DS.mk [(kA, a)] [(kA, a)] [] 0 false).now.get kA).getD [] = a := by kernel_rfl
    rw [this]; omega
  have Hga := Lib.hid hga
  clear hga
  cases add with
  | true =>
    go_wp2_with fail
    have hBa : Below w4.heap.size w4 (w4.alloc (.cells #[.slice A0 a.length c0, .slice A1 m c1] 22)) := (Below.refl _ _).alloc (Nat.le_refl _) _
    refine (joined2_calls (U8.below hBa _ _ (Hu4.out _ _ Hva.out)) (U8.below hBa _ _ (Hu4.out _ _ (Hvb.out.take m hml))) (by go_simp) (by go_simp) (by rw [List.length_take]; omega)).mono ?_
    rintro e w5 ⟨vj, rfl, ho, hb⟩
    have hb5 := below_trans hBa hb
    have HN5 := Lib.hid (HN4.out.below hb5).1
    have Hu5 := Lib.hid (Hu4.out.trans (U8.below hb5))
    have Hvj := Lib.hid (Rd.own ho)
    clear ho hb hb5 hBa HN4 Hu4 hmin hmm
    go_wp2_with fail
    refine (append_N HN5.out (torn_s3a hal hbl) (fuel0 (leb (by kernel_rfl))) (Hu5.out _ _ Hvb.out) (leb (by kernel_rfl)) (by omega) Hga.out).mono ?_
    rintro e w6 ⟨rfl, hN, hu⟩
    have HN6 := Lib.hid hN
    have Hu6 := Lib.hid (Hu5.out.trans hu)
    have Hvj6 := Lib.hid (hu _ _ Hvj.out)
    clear hN hu HN5 Hu5 Hvj
    go_wp2_with fail
    refine (lose_N HN6.out (torn_s4 a b torn true _) hBe (leb (by kernel_rfl)) (torn_fits hal hbl torn true _)).mono ?_
    rintro e w7 ⟨rfl, hN, hu⟩
    have HN7 := Lib.hid hN
    have Hvj7 := Lib.hid (hu _ _ Hvj6.out)
    clear hN hu HN6 Hu6 Hvj6
    go_wp2_with fail
    refine (restart_N HN7.out (torn_s5 _)).mono ?_
    rintro e w8 ⟨rfl, hN, hu⟩
    have HN8 := Lib.hid hN
    have Hvj8 := Lib.hid (hu _ _ Hvj7.out)
    clear hN hu HN7 Hvj7
    go_wp2_with fail
    refine (read_N HN8.out (torn_s6 _) (leb (by kernel_rfl)) (torn_s7 (tornX_len hal hbl torn true))).mono ?_
    rintro e w9 ⟨v2, rfl, hv2, hN, hu⟩
    have HN9 := Lib.hid hN
    have s1 := run_string hv2
    have s2 := run_string (hu _ _ Hvj8.out)
    rw [Hx1.out] at s1
    clear hN hu HN8 Hvj8 hv2
    go_wp2
    go_ret
    obtain ⟨_, _, _, h⟩ := HN9.out
    exact ⟨rfl, h⟩
  | false =>
    by_cases h0 : 0 ≤ torn
    · have hd0 : decide (0 ≤ torn) = true := by simpa using h0
      have H0 := Lib.hid h0
      go_wp2_with fail
      clear hmin hmm
      refine (create_N HN4.out (torn_s3c hbl) (fuel0 (leb (by kernel_rfl))) (Hu4.out _ _ Hvb.out) (leb (by kernel_rfl)) (by omega) Hga.out (leb (by kernel_rfl))).mono ?_
      rintro e w6 ⟨rfl, hN, hu⟩
      have HN6 := Lib.hid hN
      have Hu6 := Lib.hid (Hu4.out.trans hu)
      clear hN hu HN4 Hu4
      go_wp2_with fail
      refine (lose_N HN6.out (torn_s4 a b torn false _) hBe (leb (by kernel_rfl)) (torn_fits hal hbl torn false _)).mono ?_
      rintro e w7 ⟨rfl, hN, hu⟩
      have HN7 := Lib.hid hN
      have Hu7 := Lib.hid (Hu6.out.trans hu)
      clear hN hu HN6 Hu6
      go_wp2_with fail
      refine (restart_N HN7.out (torn_s5 _)).mono ?_
      rintro e w8 ⟨rfl, hN, hu⟩
      have HN8 := Lib.hid hN
      have Hu8 := Lib.hid (Hu7.out.trans hu)
      clear hN hu HN7 Hu7
      go_wp2_with fail
      refine (read_N HN8.out (torn_s6 _) (leb (by kernel_rfl)) (torn_s7 (tornX_len hal hbl torn false))).mono ?_
      rintro e w9 ⟨v2, rfl, hv2, hN, hu⟩
      have HN9 := Lib.hid hN
      have s1 := run_string hv2
      have s2 := run_string (hu _ _ (Hu8.out _ _ (Hvb.out.take m hml)))
      rw [Hx2.out H0.out] at s1
      clear hN hu HN8 Hu8 hv2
      go_wp2
      go_ret
      obtain ⟨_, _, _, h⟩ := HN9.out
      exact ⟨rfl, h⟩
    · have hd0 : decide (0 ≤ torn) = false := by simpa using h0
      have H0 := Lib.hid h0
      go_wp2_with fail
      clear hmin hmm
      refine (create_N HN4.out (torn_s3c hbl) (fuel0 (leb (by kernel_rfl))) (Hu4.out _ _ Hvb.out) (leb (by kernel_rfl)) (by omega) Hga.out (leb (by kernel_rfl))).mono ?_
      rintro e w6 ⟨rfl, hN, hu⟩
      have HN6 := Lib.hid hN
      have Hu6 := Lib.hid (Hu4.out.trans hu)
      clear hN hu HN4 Hu4
      go_wp2_with fail
      refine (lose_N HN6.out (torn_s4 a b torn false _) hBe (leb (by kernel_rfl)) (torn_fits hal hbl torn false _)).mono ?_
      rintro e w7 ⟨rfl, hN, hu⟩
      have HN7 := Lib.hid hN
      have Hu7 := Lib.hid (Hu6.out.trans hu)
      clear hN hu HN6 Hu6
      go_wp2_with fail
      refine (restart_N HN7.out (torn_s5 _)).mono ?_
      rintro e w8 ⟨rfl, hN, hu⟩
      have HN8 := Lib.hid hN
      have Hu8 := Lib.hid (Hu7.out.trans hu)
      clear hN hu HN7 Hu7
      go_wp2_with fail
      refine (read_N HN8.out (torn_s6 _) (leb (by kernel_rfl)) (torn_s7 (tornX_len hal hbl torn false))).mono ?_
      rintro e w9 ⟨v2, rfl, hv2, hN, hu⟩
      have HN9 := Lib.hid hN
      have s1 := run_string hv2
      have s2 := run_string (hu _ _ (Hu8.out _ _ (Hva.out)))
      rw [Hx3.out H0.out] at s1
      clear hN hu HN8 Hu8 hv2
      go_wp2
      go_ret
      obtain ⟨_, _, _, h⟩ := HN9.out
      exact ⟨rfl, h⟩
end Go.Proofs.Ytjcjgeneehhgbaa.Dev
