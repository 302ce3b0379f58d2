/-
  The reference's Name; DeviceNames, walked.
-/
import Derived.Test.YtjcjgeneehhgbaaDevM
import Derived.Test.YtjcjgeneehhgbaaLTorn
namespace Go.Proofs.Ytjcjgeneehhgbaa.Dev
open Go.RowKit Go.Proofs
set_option linter.unusedVariables false
set_option linter.unusedSectionVars false
set_option linter.unusedSimpArgs false
variable [Bs]

set_option maxHeartbeats 1000000 in
theorem refName_calls (s : ByteArray) (w : World) (hs : s.size ≤ 9223372036854775807) :
    Calls Try.prog 32 #[.string s] w fun e w' => e = .returned (.bool (valid s)) ∧ w = w' := by
  by_cases h0 : s.size < 1
  · have hv : valid s = false := by unfold valid; simp; omega
    rw [hv]
    have hd : decide ((s.size : Int) < 1) = true := by simp; omega
    go_enter Try.func32, Try.ntmps32
    go_wp2
    go_ret
    exact ⟨rfl, rfl⟩
  by_cases h1 : 64 < s.size
  · have hv : valid s = false := by unfold valid; simp; omega
    rw [hv]
    have hd : decide ((s.size : Int) < 1) = false := by simp; omega
    have hd1 : decide ((64 : Int) < (s.size : Int)) = true := by simp; omega
    go_enter Try.func32, Try.ntmps32
    go_wp2
    go_ret
    exact ⟨rfl, rfl⟩
  have hd : decide ((s.size : Int) < 1) = false := by simp; omega
  have hd1 : decide ((64 : Int) < (s.size : Int)) = false := by simp; omega
  have hv : valid s = s.data.toList.all okc := by unfold valid; simp; omega
  rw [hv]
  clear hv
  generalize hr : s.data.toList.all okc = r
  have Hr := Lib.hid hr
  clear hr
  have hdl := data_len s
  go_enter Try.func32, Try.ntmps32
  go_wp2
  go_loop [3] (fun i => ∃ k : Nat, k ≤ s.size ∧ i = .int .i64 k ∧ (s.data.toList.take k).all okc = true) (fun i => s.size - (intOf i).toNat)
  case atStart => exact ⟨0, Nat.zero_le _, rfl, by simp⟩
  case round =>
    obtain ⟨k, hk, rfl, hall⟩ := hrel
    have Hall := Lib.hid hall
    clear hall
    by_cases hlt : k < s.size
    · have Hts := Lib.hid (take_all_succ (l := s.data.toList) (k := k) (by omega))
      have Hok := Lib.hid (okc_iff (s.data.toList.getD k 0))
      have hix : s.data.toList.getD k 0 = s[k] := by
        rw [List.getD_eq_getElem?_getD, List.getElem?_eq_getElem (by omega)]
        simp only [Option.getD_some, Array.getElem_toList]
        rfl
      rw [hix] at Hts Hok
      by_cases hok : okc s[k] = true
      · have h := Hok.out.1 hok
        have hcl := s[k].toNat_lt
        clear Hok hix
        have Hk2 := Lib.hid hok
        clear hok
        go_wp2
        all_goals try (exfalso; simp at *; omega)
        all_goals (refine ⟨⟨k + 1, by omega, by go_num, by rw [Hts.out, Hall.out, Hk2.out]; rfl⟩, by simp [intOf]; omega⟩)
      · have h : ¬ _ := fun h => hok (Hok.out.2 h)
        have hcl := s[k].toNat_lt
        clear Hok hix
        have hok' : okc s[k] = false := by simpa using hok
        have Hk2 := Lib.hid hok'
        clear hok hok'
        have hfin : r = false := by
          have h2 := Hts.out
          rw [Hk2.out, Bool.and_false] at h2
          rw [← Hr.out]
          exact all_false_of_take h2
        have Hfin := Lib.hid hfin
        clear hfin
        go_wp2
        all_goals try (exfalso; simp at *; omega)
        all_goals go_ret
        all_goals exact ⟨by rw [Hfin.out]; rfl, rfl⟩
    · have hkk : k = s.size := by omega
      have hfin : r = true := by
        have := Hall.out
        rw [List.take_of_length_le (by omega), Hr.out] at this
        exact this
      have Hfin := Lib.hid hfin
      clear hfin hkk
      go_wp2
      go_ret
      exact ⟨by rw [Hfin.out]; rfl, rfl⟩

theorem names_bad {s : ByteArray} (hv : valid s = false) (b : Bool) (l : List ByteArray) (hs : s ∈ l) : chk false b [] l = 300 := by
  have : l.all valid = false := by
    cases h : l.all valid with
    | false => rfl
    | true => rw [List.all_eq_true] at h; rw [h s hs] at hv; cases hv
  simp [chk, this]
theorem names_none {l : List ByteArray} (hv : l.all valid = true) : chk false true [] l = 301 := by simp [chk, hv, FS.get]

set_option maxHeartbeats 4000000 in
set_option maxRecDepth 100000 in
theorem names_walk {w : World} (hB : Bs.n = w.heap.size) {s : ByteArray} {vb : Value} {b : List Int} (hs : s.size ≤ maxLen) (hvb : Rd w vb b) :
    Calls Try.prog 7 #[.string s, vb] w fun e w' => e = .returned (.bool true) ∧ Below w.heap.size w w' := by
  have hs' : s.size ≤ 9223372036854775807 := by simpa [maxLen] using hs
  have Hvb := Lib.hid hvb
  obtain ⟨A1, c1, rfl, _⟩ := hvb
  have hBe : Bs.n ≤ w.heap.size := Nat.le_of_eq hB
  clear hs
  by_cases hb : 100 < b.length
  · have hd : decide ((100 : Int) < (b.length : Int)) = true := by simp; omega
    go_enter Try.func7, Try.ntmps7
    go_wp2
    go_ret
    exact ⟨rfl, Below.refl _ _⟩
  have hd : decide ((100 : Int) < (b.length : Int)) = false := by simp; omega
  have hbl : b.length ≤ 100 := by omega
  clear hb
  go_enter Try.func7, Try.ntmps7
  go_wp2_with fail
  refine (new_N w hBe).mono ?_
  rintro e w1 ⟨d, rfl, hN, hu⟩
  have HN1 := Lib.hid hN
  have Hu1 := Lib.hid hu
  have hle1 : Bs.n ≤ w1.heap.size := by obtain ⟨_, _, _, h⟩ := hN; exact Nat.le_trans hBe h.size
  clear hN hu
  go_wp2_with fail
  refine (known_calls w1 hle1).mono ?_
  rintro e w2 ⟨rfl, hb⟩
  have HN2 := Lib.hid (HN1.out.below hb).1
  have Hu2 := Lib.hid (Hu1.out.trans (U8.below hb))
  clear hb HN1 Hu1
  have F0 : Hid (Fuel DS.new) := Lib.hid (fuel0 (leb (by kernel_rfl)))
  cases hv : valid s with
  | false =>
    have Hv := Lib.hid hv
    clear hv
    go_wp2_with fail
    refine (refName_calls s w2 hs').mono ?_
    rw [Hv.out]
    rintro e _ ⟨rfl, rfl⟩
    go_wp2_with fail
    refine (read_N HN2.out (k := s) (xs := []) (r := 300) (by simp only [DS.read, show chk DS.new.down true DS.new.now [s] = 300 from names_bad Hv.out _ _ (by simp)]; rfl) hs' (Nat.zero_le _)).mono ?_
    rintro e w3 ⟨v3, rfl, hv3, hN, hu⟩
    have HN3 := Lib.hid hN
    have Hu3 := Lib.hid (Hu2.out.trans hu)
    clear hN hu HN2 Hu2 hv3
    go_wp2_with fail
    refine (create_N HN3.out (st' := DS.new) (r := 300) (by simp only [DS.create, show chk DS.new.down false DS.new.now [s] = 300 from names_bad Hv.out _ _ (by simp)]; rfl) F0.out (Hu3.out _ _ Hvb.out) hs' (by omega) (Nat.zero_le _) (Nat.zero_le _)).mono ?_
    rintro e w4 ⟨rfl, hN, hu⟩
    have HN4 := Lib.hid hN
    have Hu4 := Lib.hid (Hu3.out.trans hu)
    clear hN hu HN3 Hu3
    go_wp2_with fail
    refine (append_N HN4.out (st' := DS.new) (r := 300) (by simp only [DS.append, show chk DS.new.down true DS.new.now [s] = 300 from names_bad Hv.out _ _ (by simp)]; rfl) F0.out (Hu4.out _ _ Hvb.out) hs' (by omega) (Nat.zero_le _)).mono ?_
    rintro e w5 ⟨rfl, hN, hu⟩
    have HN5 := Lib.hid hN
    clear hN hu HN4 Hu4
    go_wp2_with fail
    refine (delete_N HN5.out (st' := DS.new) (r := 300) (by simp only [DS.delete, show chk DS.new.down true DS.new.now [s] = 300 from names_bad Hv.out _ _ (by simp)]; rfl) F0.out hs' (Nat.zero_le _)).mono ?_
    rintro e w6 ⟨rfl, hN, hu⟩
    have HN6 := Lib.hid hN
    clear hN hu HN5
    go_wp2_with fail
    refine (rename_N HN6.out (st' := DS.new) (r := 300) (l := kA) (by simp only [DS.rename, show chk DS.new.down true DS.new.now [s, kA] = 300 from names_bad Hv.out _ _ (by simp)]; rfl) F0.out hs' (leb (by kernel_rfl)) (Nat.zero_le _)).mono ?_
    rintro e w7 ⟨rfl, hN, hu⟩
    have HN7 := Lib.hid hN
    clear hN hu HN6
    go_wp2_with fail
    refine (rename_N HN7.out (st' := DS.new) (r := 300) (k := kA) (by simp only [DS.rename, show chk DS.new.down true DS.new.now [kA, s] = 300 from names_bad Hv.out _ _ (by simp)]; rfl) F0.out (leb (by kernel_rfl)) hs' (Nat.zero_le _)).mono ?_
    rintro e w8 ⟨rfl, hN, hu⟩
    have HN8 := Lib.hid hN
    clear hN hu HN7
    go_wp2_with fail
    refine (flip_bad_N HN8.out (r := 300) (by simp only [DS.flip, Hv.out]; rfl) (by decide) hs' (Nat.zero_le _)).mono ?_
    rintro e w9 ⟨rfl, hN, hu⟩
    have HN9 := Lib.hid hN
    clear hN hu HN8
    go_wp2
    go_ret
    obtain ⟨_, _, _, h⟩ := HN9.out
    exact ⟨rfl, h⟩
  | true =>
    have Hv := Lib.hid hv
    clear hv
    have h1 : [s].all valid = true := by simp [Hv.out]
    have h2 : [s, kA].all valid = true := by simp [Hv.out]; kernel_rfl
    have H1 := Lib.hid h1
    have H2 := Lib.hid h2
    clear h1 h2
    go_wp2_with fail
    refine (refName_calls s w2 hs').mono ?_
    rw [Hv.out]
    rintro e _ ⟨rfl, rfl⟩
    go_wp2_with fail
    refine (append_N HN2.out (st' := DS.new) (r := 301) (by simp only [DS.append, show chk DS.new.down true DS.new.now [s] = 301 from names_none H1.out]; rfl) F0.out (Hu2.out _ _ Hvb.out) hs' (by omega) (Nat.zero_le _)).mono ?_
    rintro e w5 ⟨rfl, hN, hu⟩
    have HN5 := Lib.hid hN
    have Hu5 := Lib.hid (Hu2.out.trans hu)
    clear hN hu HN2 Hu2
    go_wp2_with fail
    refine (delete_N HN5.out (st' := DS.new) (r := 301) (by simp only [DS.delete, show chk DS.new.down true DS.new.now [s] = 301 from names_none H1.out]; rfl) F0.out hs' (Nat.zero_le _)).mono ?_
    rintro e w6 ⟨rfl, hN, hu⟩
    have HN6 := Lib.hid hN
    have Hu6 := Lib.hid (Hu5.out.trans hu)
    clear hN hu HN5 Hu5
    go_wp2_with fail
    refine (rename_N HN6.out (st' := DS.new) (r := 301) (l := kA) (by simp only [DS.rename, show chk DS.new.down true DS.new.now [s, kA] = 301 from names_none H2.out]; rfl) F0.out hs' (leb (by kernel_rfl)) (Nat.zero_le _)).mono ?_
    rintro e w7 ⟨rfl, hN, hu⟩
    have HN7 := Lib.hid hN
    have Hu7 := Lib.hid (Hu6.out.trans hu)
    clear hN hu HN6 Hu6
    have hc0 : chk DS.new.down false DS.new.now [s] = 0 := by
      show (if false = true then (303 : Int) else if [s].all valid = false then 300 else if (false && _) = true then 301 else 0) = 0
      rw [H1.out]; rfl
    have hcr : DS.new.create s b = (⟨[], [(s, b)], [⟨1, s, ⟨#[]⟩, b⟩], 0, false⟩, 0) := by
      rw [create_ok hc0 (by omega) (leb (by kernel_rfl)), perform_zero rfl]
      rfl
    have Hcr := Lib.hid hcr
    clear hcr hc0
    go_wp2_with fail
    refine (create_N HN7.out Hcr.out F0.out (Hu7.out _ _ Hvb.out) hs' (by omega) (Nat.zero_le _) (Nat.zero_le _)).mono ?_
    rintro e w8 ⟨rfl, hN, hu⟩
    have HN8 := Lib.hid hN
    have Hu8 := Lib.hid (Hu7.out.trans hu)
    clear hN hu HN7 Hu7
    have hg : FS.get [(s, b)] s = some b := by simp [FS.get]
    have hrd : DS.read ⟨[], [(s, b)], [⟨1, s, ⟨#[]⟩, b⟩], 0, false⟩ s = (b, 0) := by
      have hc1 : chk false true [(s, b)] [s] = 0 := by simp [chk, Hv.out, FS.get]
      simp only [DS.read, hc1, if_true, hg]
      rfl
    have Hrd := Lib.hid hrd
    have Hg := Lib.hid hg
    clear hrd hg
    go_wp2_with fail
    refine (read_N HN8.out Hrd.out hs' (by show ((FS.get [(s, b)] s).getD []).length ≤ _; rw [Hg.out]; simp only [Option.getD_some]; omega)).mono ?_
    rintro e w9 ⟨v2, rfl, hv2, hN, hu⟩
    have HN9 := Lib.hid hN
    have s1 := run_string hv2
    have s2 := run_string (hu _ _ (Hu8.out _ _ Hvb.out))
    clear hN hu HN8 Hu8 hv2
    go_wp2
    go_ret
    obtain ⟨_, _, _, h⟩ := HN9.out
    exact ⟨rfl, h⟩
end Go.Proofs.Ytjcjgeneehhgbaa.Dev
