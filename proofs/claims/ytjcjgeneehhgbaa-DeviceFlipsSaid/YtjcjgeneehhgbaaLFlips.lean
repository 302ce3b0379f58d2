/-
  DeviceFlips, walked: the law's function returns true and writes nothing elder.
-/
import Derived.Test.YtjcjgeneehhgbaaDevO
import Derived.Test.YtjcjgeneehhgbaaLTorn
import Derived.Test.YtjcjgeneehhgbaaSep
namespace Go.Proofs.Ytjcjgeneehhgbaa.Dev
open Go.RowKit Go.Proofs
set_option linter.unusedVariables false
set_option linter.unusedSectionVars false
set_option linter.unusedSimpArgs false
variable [Bs]

/-- An argument that came in, as bytes, each of them a byte. -/
theorem rd_of_row8 {w : World} {a : Option Addr} {len cap : Nat} {zs : List Int} (hB : Bs.n = w.heap.size)
    (h : (a = none ∧ len = 0 ∧ cap = 0 ∧ zs = []) ∨ ∃ x, a = some x ∧ len ≤ cap ∧ cap ≤ maxLen ∧ zs.length = cap ∧ (∀ i, i < zs.length → w.cell? (x.add i) = some (.int .u8 (zs.getD i 0))) ∧ ∀ n ∈ zs, (Lit.int .u8 n).wf = true) : ∃ xs, xs.length = len ∧ Rd w (.slice a len cap) xs ∧ ∀ x ∈ xs, 0 ≤ x ∧ x < 256 := by
  rcases h with ⟨rfl, rfl, rfl, rfl⟩ | ⟨x, rfl, hl, hm, hz, hc, hw⟩
  · exact ⟨[], rfl, Rd.nil w, by simp⟩
  · have hlen : (zs.take len).length = len := by rw [List.length_take]; omega
    refine ⟨zs.take len, hlen, ⟨some x, cap, by rw [hlen], by omega, by simp only [maxLen] at hm; omega, fun i hi => ⟨x, rfl, ?_, .inl ?_⟩⟩, fun y hy => ?_⟩
    · rw [hc i (by omega)]
      simp [List.getD_eq_getElem?_getD, List.getElem?_take, show i < len by omega]
    · have := World.block_lt_of_cell? w _ (hc i (by omega))
      rw [add_block] at this
      omega
    · have h := hw y (List.mem_of_mem_take hy)
      simp [Lit.wf, IntKind.min, IntKind.max, IntKind.signed, IntKind.bits] at h
      omega

theorem bxor_bxor {x y : Int} (h : 0 ≤ x ∧ x < 256) : bxor (bxor x y) y = x := by
  have e : BitVec.ofInt 8 ((BitVec.ofInt 8 x ^^^ BitVec.ofInt 8 y).toNat : Int) = BitVec.ofInt 8 x ^^^ BitVec.ofInt 8 y := by
    apply BitVec.eq_of_toNat_eq
    simp only [BitVec.toNat_ofInt]
    have := (BitVec.ofInt 8 x ^^^ BitVec.ofInt 8 y).isLt
    generalize (BitVec.ofInt 8 x ^^^ BitVec.ofInt 8 y).toNat = q at *
    omega
  unfold bxor
  rw [e, BitVec.xor_assoc, BitVec.xor_self, BitVec.xor_zero]
  simp only [BitVec.toNat_ofInt]
  omega
theorem flip_flip {b : List Int} (hb : ∀ x ∈ b, 0 ≤ x ∧ x < 256) {off : Int} (h0 : 0 ≤ off) (h1 : off < b.length) (bit : Int) : flipAt (flipAt b off bit) off bit = b := by
  have hi : off.toNat < b.length := by omega
  have hg : b.getD off.toNat 0 = b[off.toNat] := by rw [List.getD_eq_getElem?_getD, List.getElem?_eq_getElem hi, Option.getD_some]
  unfold flipAt
  rw [List.set_set]
  have e : (b.set off.toNat (bxor (b.getD off.toNat 0) ((2 ^ bit.toNat : Nat) : Int))).getD off.toNat 0 = bxor (b.getD off.toNat 0) ((2 ^ bit.toNat : Nat) : Int) := by
    rw [List.getD_eq_getElem?_getD, List.getElem?_set_self hi, Option.getD_some]
  rw [e, hg, bxor_bxor (hb _ (List.getElem_mem hi)), List.set_getElem_self]

abbrev flS (b : List Int) (dn : Bool) : DS := ⟨[(kA, b)], [(kA, b)], [], 0, dn⟩
theorem fl_bad1 (b : List Int) (off bit : Int) : (DS.flip ⟨[], [(kA, b)], [⟨1, kA, ⟨#[]⟩, b⟩], 0, false⟩ kA off bit).2 = 304 := by
  have hv : valid kA = true := by kernel_rfl
  have hg : FS.get [(kA, b)] kA = some b := by kernel_rfl
  simp [DS.flip, hv, hg]
theorem fl_lose (b : List Int) : DS.lose (flS b false) 0 0 = flS b true := by kernel_rfl
theorem fl_bad2 (b : List Int) (n : Int) (h : (b.length : Int) ≤ n) (bit : Int) : (DS.flip (flS b true) kA n bit).2 = 304 := by
  have hv : valid kA = true := by kernel_rfl
  have hg : FS.get [(kA, b)] kA = some b := by kernel_rfl
  simp [DS.flip, hv, hg, h]
theorem fl_bad3 (b : List Int) (n : Int) : (DS.flip (flS b true) kA n 8).2 = 304 := by
  have hv : valid kA = true := by kernel_rfl
  have hg : FS.get [(kA, b)] kA = some b := by kernel_rfl
  simp [DS.flip, hv, hg]
theorem fl_bad4 (b : List Int) : (DS.flip (flS b true) kB 0 0).2 = 301 := by
  have hv : valid kB = true := by kernel_rfl
  have hg : FS.get [(kA, b)] kB = none := by kernel_rfl
  simp [DS.flip, hv, hg]
theorem fl_get {b : List Int} (h : b.length ≤ 65536) (d : FS) (p : List Op) (f : Int) (dn : Bool) : (((DS.mk d [(kA, b)] p f dn).now.get kA).getD []).length ≤ 4194304 := by
  have hg : FS.get [(kA, b)] kA = some b := by kernel_rfl
  simp only [hg, Option.getD_some]; omega
theorem fl_getB (b : List Int) (d : FS) (p : List Op) (f : Int) (dn : Bool) : (((DS.mk d [(kA, b)] p f dn).now.get kB).getD []).length ≤ 4194304 := by
  have hg : FS.get [(kA, b)] kB = none := by kernel_rfl
  simp only [hg, Option.getD_none]; simp

set_option maxHeartbeats 4000000 in
set_option maxRecDepth 100000 in
theorem flips_walk {w : World} (hB : Bs.n = w.heap.size) {vb : Value} {b : List Int} (hvb : Rd w vb b) (hbytes : ∀ x ∈ b, 0 ≤ x ∧ x < 256) (a0 a1 : Int) (ha0 : -9223372036854775808 ≤ a0 ∧ a0 ≤ 9223372036854775807) (ha1 : -9223372036854775808 ≤ a1 ∧ a1 ≤ 9223372036854775807) :
    Calls Try.prog 5 #[vb, .int .i64 a0, .int .i64 a1] w fun e w' => e = .returned (.bool true) ∧ Below w.heap.size w w' := by
  have Hvb := Lib.hid hvb
  have Hby := Lib.hid hbytes
  obtain ⟨A0, c0, rfl, hb1, hb2, _⟩ := hvb
  have hBe : Bs.n ≤ w.heap.size := Nat.le_of_eq hB
  have Hba0 := Lib.hid ha0
  have Hba1 := Lib.hid ha1
  clear hbytes ha0 ha1
  by_cases hz : b.length = 0
  · have hd : decide ((b.length : Int) = 0) = true := by simp [hz]
    have hd1 : (((b.length : Nat) : Int) == 0) = true := by simp [hz]
    go_enter Try.func5, Try.ntmps5
    go_wp2
    go_ret
    exact ⟨rfl, Below.refl _ _⟩
  have hd1 : (((b.length : Nat) : Int) == 0) = false := by rw [beq_eq_false_iff_ne]; omega
  by_cases ha : 65536 < b.length
  · have hd : decide ((65536 : Int) < (b.length : Int)) = true := by simp; omega
    go_enter Try.func5, Try.ntmps5
    go_wp2
    go_ret
    exact ⟨rfl, Below.refl _ _⟩
  have hd : decide ((65536 : Int) < (b.length : Int)) = false := by simp; omega
  have hbl : b.length ≤ 65536 := by omega
  go_enter Try.func5, Try.ntmps5
  go_wp2_with fail
  refine (fold_calls w Hba0.out (by omega)).mono ?_
  rintro e _ ⟨rfl, rfl⟩
  go_wp2_with fail
  refine (fold_calls w Hba1.out (by omega)).mono ?_
  rintro e _ ⟨rfl, rfl⟩
  have hr0 := fold_range a0 (n := (b.length : Int)) (by omega)
  have hr1 := fold_range a1 (n := 8) (by omega)
  obtain ⟨at', hat⟩ : ∃ o : Nat, fold a0 (b.length : Int) = (o : Int) := ⟨(fold a0 (b.length : Int)).toNat, by omega⟩
  rw [hat] at hr0 ⊢
  generalize fold a1 8 = bit at *
  obtain ⟨r0, r1⟩ := hr0
  obtain ⟨r2, r3⟩ := hr1
  have r3' : bit ≤ 7 := by omega
  clear hat ha
  have Hff := Lib.hid (flip_flip Hby.out r0 r1 bit)
  have hfl : (flipAt b (at' : Int) bit).length = b.length := by simp [flipAt]
  have Hfl := Lib.hid hfl
  clear hfl
  go_wp2_with fail
  refine (new_N w hBe).mono ?_
  rintro e w1 ⟨d, rfl, hN, hu⟩
  have HN1 := Lib.hid hN
  have Hu1 := Lib.hid hu
  have hle1 : Bs.n ≤ w1.heap.size := by obtain ⟨_, _, _, h⟩ := hN; exact Nat.le_trans hBe h.size
  clear hN hu
  go_wp2_with fail
  refine (known_calls w1 hle1).mono ?_
  rintro e w2 ⟨rfl, hb⟩
  have HN2 := Lib.hid (HN1.out.below hb).1
  have Hu2 := Lib.hid (Hu1.out.trans (U8.below hb))
  clear hb HN1 Hu1
  go_wp2_with fail
  refine (create_N HN2.out (torn_s1 hbl) (fuel0 (leb (by kernel_rfl))) (Hu2.out _ _ Hvb.out) (leb (by kernel_rfl)) (by omega) (leb (by kernel_rfl)) (leb (by kernel_rfl))).mono ?_
  rintro e w3 ⟨rfl, hN, hu⟩
  have HN3 := Lib.hid hN
  have Hu3 := Lib.hid (Hu2.out.trans hu)
  clear hN hu HN2 Hu2
  go_wp2_with fail
  refine (flip_bad_N HN3.out (fl_bad1 b _ _) (by decide) (leb (by kernel_rfl)) (fl_get hbl _ _ _ _)).mono ?_
  rintro e w4 ⟨rfl, hN, hu⟩
  have HN4 := Lib.hid hN
  have Hu4 := Lib.hid (Hu3.out.trans hu)
  clear hN hu HN3 Hu3
  go_wp2_with fail
  refine (sync_N HN4.out (torn_s2 b) (fuel0 (leb (by kernel_rfl))) (Fits.cons (.inl rfl) (by show ([] : List Int).length + b.length ≤ _; simp only [List.length_nil]; omega) (Fits.nil _))).mono ?_
  rintro e w5 ⟨rfl, hN, hu⟩
  have HN5 := Lib.hid hN
  have Hu5 := Lib.hid (Hu4.out.trans hu)
  clear hN hu HN4 Hu4
  go_wp2_with fail
  refine (flip_ok_N HN5.out (st' := flS (flipAt b (at' : Int) bit) false) (b := b) (b' := b) (by kernel_rfl) (leb (by kernel_rfl)) (by omega) (by kernel_rfl) (by kernel_rfl) (by kernel_rfl) rfl r0 r1 r2 r3').mono ?_
  rintro e w6 ⟨rfl, hN, hu⟩
  have HN6 := Lib.hid hN
  have Hu6 := Lib.hid (Hu5.out.trans hu)
  clear hN hu HN5 Hu5
  go_wp2_with fail
  refine (lose_N HN6.out (fl_lose _) hBe (leb (by kernel_rfl)) (Fits.nil _)).mono ?_
  rintro e w7 ⟨rfl, hN, hu⟩
  have HN7 := Lib.hid hN
  have Hu7 := Lib.hid (Hu6.out.trans hu)
  clear hN hu HN6 Hu6
  go_wp2_with fail
  refine (flip_bad_N HN7.out (fl_bad2 _ _ (by rw [Hfl.out]; omega) _) (by decide) (leb (by kernel_rfl)) (fl_get (by rw [Hfl.out]; omega) _ _ _ _)).mono ?_
  rintro e w8 ⟨rfl, hN, hu⟩
  have HN8 := Lib.hid hN
  have Hu8 := Lib.hid (Hu7.out.trans hu)
  clear hN hu HN7 Hu7
  go_wp2_with fail
  refine (flip_bad_N HN8.out (fl_bad3 _ _) (by decide) (leb (by kernel_rfl)) (fl_get (by rw [Hfl.out]; omega) _ _ _ _)).mono ?_
  rintro e w9 ⟨rfl, hN, hu⟩
  have HN9 := Lib.hid hN
  have Hu9 := Lib.hid (Hu8.out.trans hu)
  clear hN hu HN8 Hu8
  go_wp2_with fail
  refine (flip_bad_N HN9.out (fl_bad4 _) (by decide) (leb (by kernel_rfl)) (fl_getB _ _ _ _ _)).mono ?_
  rintro e w10 ⟨rfl, hN, hu⟩
  have HN10 := Lib.hid hN
  have Hu10 := Lib.hid (Hu9.out.trans hu)
  clear hN hu HN9 Hu9
  go_wp2_with fail
  refine (restart_N HN10.out (torn_s5 _)).mono ?_
  rintro e w11 ⟨rfl, hN, hu⟩
  have HN11 := Lib.hid hN
  have Hu11 := Lib.hid (Hu10.out.trans hu)
  clear hN hu HN10 Hu10
  go_wp2_with fail
  refine (read_N HN11.out (torn_s6 _) (leb (by kernel_rfl)) (fl_get (by rw [Hfl.out]; omega) _ _ _ _)).mono ?_
  rintro e w12 ⟨v2, rfl, hv2, hN, hu⟩
  have HN12 := Lib.hid hN
  have Hu12 := Lib.hid (Hu11.out.trans hu)
  have Hv2 := Lib.hid hv2
  clear hN hu HN11 Hu11 hv2
  go_wp2_with fail
  have hBa : Below w12.heap.size w12 (w12.alloc (.cells #[.slice A0 b.length c0] 22)) := (Below.refl _ _).alloc (Nat.le_refl _) _
  refine (joined1_calls (U8.below hBa _ _ (Hu12.out _ _ Hvb.out)) (by go_simp) (by omega)).mono ?_
  rintro e w13 ⟨vj, rfl, ho, hb⟩
  have hb5 := below_trans hBa hb
  obtain ⟨g, cj, rfl, hgw, hc1, hc2, hcell, hfz⟩ := own_addr ho (by omega)
  have ho1 : at' < b.length := by omega
  have hoo := hcell at' ho1
  rw [u8s_get ho1] at hoo
  have hff := hfz at'
  have hs := shl_one r3'
  have HB5 := Lib.hid hb5
  have HO := Lib.hid ho
  have hgg : w12.heap.size ≤ g := Nat.le_trans hBa.size hgw
  have Hgg := Lib.hid hgg
  clear ho hb hb5 hBa hcell hfz hgw hgg
  go_wp2
  go_still_tail 8, (by kernel_rfl)
  change wpList _ _ _ _ _ w13.drew
  have hod : w13.drew.ownsRow _ 5 1 (.slice (some ⟨g, 0, none⟩) b.length cj) b.length (u8s b) := own_block HO.out fun i _ => rfl
  have hb03 : Below w12.heap.size w12 w13.drew := HB5.out.drew
  have hff3 : w13.drew.frozen? ⟨g, at', none⟩ = false := hff
  have hoo3 : w13.drew.cell? ⟨g, at', none⟩ = some (.int .u8 (b.getD at' 0)) := hoo
  generalize hW2 : w13.drew = W2 at *
  clear hW2 hff hoo
  have ho3 := own_set hod ho1 (.int .u8 (bits .xor .u8 (b.getD at' 0) ((2 ^ bit.toNat : Nat) : Int)))
  rw [bits_xor, ← flipAt_u8] at ho3
  have hb4 := hb03.setCell (p := ⟨g, at', none⟩) Hgg.out (.int .u8 (bits .xor .u8 (b.getD at' 0) ((2 ^ bit.toNat : Nat) : Int)))
  rw [bits_xor] at hb4
  have Hx : Hid (bits .xor .u8 (b[at']'ho1) ((2 : Int) ^ bit.toNat % 256) = bxor (b.getD at' 0) ((2 ^ bit.toNat : Nat) : Int)) := Lib.hid (by rw [bits_xor, pow_mod r3', List.getD_eq_getElem?_getD, List.getElem?_eq_getElem ho1, Option.getD_some])
  go_wp2
  erw [Hx.out]
  generalize W2.setCell ⟨g, at', none⟩ (.int .u8 (bxor (b.getD at' 0) ((2 ^ bit.toNat : Nat) : Int))) = w14 at *
  have s1 := run_string (U8.below hb4 _ _ Hv2.out)
  have s2 := run_string (Rd.own ho3)
  have HN14 := Lib.hid (HN12.out.below hb4).1
  have Hu14 := Lib.hid (Hu12.out.trans (U8.below hb4))
  clear hod hb03 hff3 hoo3 ho3 hb4 HN12 Hu12 HB5 HO
  rw [s1]
  simp only [Result.andThen]
  rw [Oper.upon_value]
  go_wp2_with fail
  clear s1 s2
  refine (flip_ok_N HN14.out (st' := flS b false) (b := flipAt b (at' : Int) bit) (b' := flipAt b (at' : Int) bit) (by rw [Hff.out]; kernel_rfl) (leb (by kernel_rfl)) (by rw [Hfl.out]; omega) (by kernel_rfl) (by kernel_rfl) (by kernel_rfl) rfl r0 (by rw [Hfl.out]; exact r1) r2 r3').mono ?_
  rintro e w15 ⟨rfl, hN, hu⟩
  have HN15 := Lib.hid hN
  have Hu15 := Lib.hid (Hu14.out.trans hu)
  clear hN hu HN14 Hu14
  go_wp2_with fail
  refine (read_N HN15.out (torn_s6 _) (leb (by kernel_rfl)) (fl_get (by omega) _ _ _ _)).mono ?_
  rintro e w16 ⟨v3, rfl, hv3, hN, hu⟩
  have HN16 := Lib.hid hN
  have s1 := run_string hv3
  have s2 := run_string (hu _ _ (Hu15.out _ _ Hvb.out))
  clear hN hu HN15 Hu15 hv3
  go_wp2
  go_ret
  obtain ⟨_, _, _, h⟩ := HN16.out
  exact ⟨rfl, h⟩
end Go.Proofs.Ytjcjgeneehhgbaa.Dev
