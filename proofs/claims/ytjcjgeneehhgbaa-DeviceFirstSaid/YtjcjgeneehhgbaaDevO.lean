/-
  The device: Flip, where a bit is turned.
-/
import Derived.Test.YtjcjgeneehhgbaaDevM
import Derived.StillTailTactics
import Derived.Deep.RegionHeld3
namespace Go.Proofs.Ytjcjgeneehhgbaa.Dev
open Go.RowKit Go.Proofs
set_option linter.unusedVariables false
set_option linter.unusedSectionVars false
set_option linter.unusedSimpArgs false
variable [Bs]

theorem bits_xor (x y : Int) : bits .xor .u8 x y = bxor x y := by
  have h : bits .xor .u8 x y = IntKind.u8.wrap ((BitVec.ofInt 8 x ^^^ BitVec.ofInt 8 y).toNat : Int) := rfl
  rw [h]
  have h2 := (BitVec.ofInt 8 x ^^^ BitVec.ofInt 8 y).isLt
  unfold bxor
  generalize (BitVec.ofInt 8 x ^^^ BitVec.ofInt 8 y).toNat = q at *
  simp [IntKind.wrap, IntKind.signed, IntKind.bits]
  omega
theorem own_set {w : World} {base : Nat} {e : TypeId} {n c g : Nat} {xs : List Value} (h : w.ownsRow base e 1 (.slice (some ⟨g, 0, none⟩) n c) n xs) {i : Nat} (hi : i < n) (u : Value) :
    (w.setCell ⟨g, i, none⟩ u).ownsRow base e 1 (.slice (some ⟨g, 0, none⟩) n c) n (xs.set i u) := by
  refine ⟨by simpa using h.1, ?_⟩
  rcases h.2 with ⟨h1, _⟩ | ⟨g', cap, cur, h1, h2, h3, h4, h5, h6, h7⟩
  · cases h1
  · injection h1 with e1 e2 e3
    injection e1 with e1
    injection e1 with e1
    subst e1 e3
    refine .inr ⟨g, c, cur.setIfInBounds i u, rfl, h2, heap_setCell_same w g i cur e u h3, h4, h5, by simpa using h6, ?_⟩
    rw [Array.toList_setIfInBounds, ← h7, List.take_set]

theorem own_addr {w : World} {base : Nat} {e : TypeId} {n : Nat} {v : Value} {xs : List Value} (h : w.ownsRow base e 1 v n xs) (hn : 0 < n) : ∃ g c, v = .slice (some ⟨g, 0, none⟩) n c ∧ base ≤ g ∧ n ≤ c ∧ c ≤ maxLen ∧ (∀ i, i < n → w.cell? ⟨g, i, none⟩ = xs[i]?) ∧ ∀ i, w.frozen? ⟨g, i, none⟩ = false := by
  rcases h.2 with ⟨h1, h2⟩ | ⟨g, cap, cur, h1, h2, h3, h4, h5, h6, h7⟩
  · omega
  · refine ⟨g, cap, h1, h2, h4, h5, fun i hi => ?_, fun i => blk_frozen h3 i⟩
    rw [blk_cell h3 i, ← h7, List.getElem?_take]
    have : i < n * 1 := by omega
    rw [if_pos this, Array.getElem?_toList]
theorem flipAt_u8 (b : List Int) (off : Nat) (bit : Int) : u8s (flipAt b off bit) = (u8s b).set off (.int .u8 (bxor (b.getD off 0) ((2 ^ bit.toNat : Nat) : Int))) := by
  simp [flipAt, u8s, List.map_set]

theorem pow_mod {bit : Int} (h1 : bit ≤ 7) : (2 : Int) ^ bit.toNat % 256 = ((2 ^ bit.toNat : Nat) : Int) := by
  have h : bit.toNat ≤ 7 := by omega
  generalize bit.toNat = n at *
  match n, h with
  | 0, _ => rfl
  | 1, _ => rfl
  | 2, _ => rfl
  | 3, _ => rfl
  | 4, _ => rfl
  | 5, _ => rfl
  | 6, _ => rfl
  | 7, _ => rfl
theorem shl_one {bit : Int} (h1 : bit ≤ 7) : IntKind.u8.wrap (1 * 2 ^ min bit.toNat IntKind.u8.bits) = ((2 ^ bit.toNat : Nat) : Int) := by
  have h : bit.toNat ≤ 7 := by omega
  generalize bit.toNat = n at *
  match n, h with
  | 0, _ => rfl
  | 1, _ => rfl
  | 2, _ => rfl
  | 3, _ => rfl
  | 4, _ => rfl
  | 5, _ => rfl
  | 6, _ => rfl
  | 7, _ => rfl

set_option maxHeartbeats 4000000 in
set_option maxRecDepth 100000 in
theorem flip_ok {w : World} {d : Nat} {st : DS} {S : Nat → Prop} (h : DevI w d st S) (k : ByteArray) (off bit : Int) (hk : k.size ≤ 9223372036854775807) {b b' : List Int} (hl : b.length ≤ 4194304) (hv : valid k = true) (hg : st.now.get k = some b) (hgd : st.dur.get k = some b')
    (hp : st.pend = []) (h0 : 0 ≤ off) (h1 : off < b.length) (h2 : 0 ≤ bit) (h3 : bit ≤ 7) :
    Calls Try.prog 28 #[.pointer (some ⟨d, 0, none⟩), .string k, .int .i64 off, .int .i64 bit] w fun e w' => e = .returned (.int .i64 0) ∧ Res w w' d { st with dur := st.dur.put k (flipAt b off bit), now := st.now.put k (flipAt b off bit) } S := by
  obtain ⟨o, rfl⟩ : ∃ o : Nat, off = (o : Int) := ⟨off.toNat, by omega⟩
  obtain ⟨rd, rn, pv, cells, hW⟩ := h
  obtain ⟨v0, hv0, hlk0⟩ := lookupI hW.now k
  have hlk := (hlk0 w rfl).1
  have c0 := hW.blk.c0
  have c1 := hW.blk.c1
  have HW := Lib.hid hW
  have Hg := Lib.hid hg
  have Hgd := Lib.hid hgd
  have Hv := Lib.hid hv
  rw [hg] at hlk hv0
  simp only [Option.getD_some, Option.isSome_some] at hlk hv0
  have Hv0 := Lib.hid hv0
  obtain ⟨A0, cc0, rfl, _⟩ := hv0
  obtain ⟨A, c, rfl⟩ : ∃ A c, pv = .slice A 0 c := by
    rcases HW.out.own.2 with ⟨rfl, e⟩ | ⟨g, cap, cur, rfl, _⟩
    · exact ⟨none, 0, rfl⟩
    · exact ⟨_, _, by rw [hp]; rfl⟩
  clear hlk0 hW hv hg hgd
  have d2 : decide ((o : Int) < 0) = false := by simp
  have d3 : decide ((b.length : Int) ≤ (o : Int)) = false := by simp; omega
  have d4 : decide (bit < 0) = false := by simp; omega
  have d5 : decide (7 < bit) = false := by simp; omega
  go_enter Try.func28, Try.ntmps28
  go_wp2_with fail
  refine (valid_calls k w hk).mono ?_
  rw [Hv.out]
  rintro e w1 ⟨rfl, hb⟩
  have c2 := cell_of_below hb HW.out.blk.c2
  have Hb := Lib.hid hb
  have Hvb := Lib.hid (U8.below hb _ _ Hv0.out)
  clear hb
  go_wp2_with fail
  refine (cloneB_calls Hvb.out (by omega)).mono ?_
  rintro e w2 ⟨v1, rfl, ho, hb⟩
  have hb02 := below_trans Hb.out hb
  obtain ⟨g, c1, rfl, hgw, hc1, hc2, hcell, hfz⟩ := own_addr ho (by omega)
  have HO := Lib.hid ho
  have Hb02 := Lib.hid hb02
  have Hgw := Lib.hid hgw
  have hoo := hcell o (by omega)
  rw [u8s_get (by omega)] at hoo
  have hff := hfz o
  have ho1 : o < b.length := by omega
  clear ho hb hb02 hcell hfz c2 hgw
  have hs := shl_one h3
  go_wp2
  go_still_tail 8, (by kernel_rfl)
  change wpList _ _ _ _ _ w2.drew
  have hod : w2.drew.ownsRow w1.heap.size 5 1 (.slice (some ⟨g, 0, none⟩) b.length c1) b.length (u8s b) := own_block HO.out fun i _ => rfl
  have hb03 : Below w.heap.size w w2.drew := Hb02.out.drew
  have hgg : w.heap.size ≤ g := Nat.le_trans Hb.out.size Hgw.out
  have hff3 : w2.drew.frozen? ⟨g, o, none⟩ = false := hff
  have hoo3 : w2.drew.cell? ⟨g, o, none⟩ = some (.int .u8 (b.getD o 0)) := hoo
  generalize hW2 : w2.drew = W2 at *
  clear hW2 hff hoo
  have ho3 := own_set hod ho1 (.int .u8 (bits .xor .u8 (b.getD o 0) ((2 ^ bit.toNat : Nat) : Int)))
  rw [bits_xor, ← flipAt_u8] at ho3
  have hb4 := hb03.setCell (p := ⟨g, o, none⟩) hgg (.int .u8 (bits .xor .u8 (b.getD o 0) ((2 ^ bit.toNat : Nat) : Int)))
  rw [bits_xor] at hb4
  have Hx : Hid (bits .xor .u8 (b[o]'ho1) ((2 : Int) ^ bit.toNat % 256) = bxor (b.getD o 0) ((2 ^ bit.toNat : Nat) : Int)) := Lib.hid (by rw [bits_xor, pow_mod h3, List.getD_eq_getElem?_getD, List.getElem?_eq_getElem ho1, Option.getD_some])
  go_wp2
  erw [Hx.out]
  generalize W2.setCell ⟨g, o, none⟩ (.int .u8 (bxor (b.getD o 0) ((2 ^ bit.toNat : Nat) : Int))) = w3 at *
  have hr3 := Rd.own ho3
  generalize hx : flipAt b (o : Int) bit = x at *
  have hb5 : Below w.heap.size w w3.drew := hb4.drew
  have hr5 : Rd w3.drew (.slice (some ⟨g, 0, none⟩) b.length c1) x := U8.below ((Below.refl _ _).drew) _ _ hr3
  have hD5 : DevW w3.drew d st S rd rn (.slice A 0 c) cells := HW.out.move (fun i hi => hb5.block i (HW.out.lt hi)) (U8.below hb5)
  have hfr5 : Fr S w w3.drew := Fr.below hb5
  obtain ⟨u1, s1, w4, w5, e1, e2, m5, f4, f5, q5⟩ := entry_run hD5.dur k hr5 Hgd.out
  have hnow5 : MapI w5 rn st.now := hD5.now.move (f5.block _ hD5.now.lt (fun e => hD5.ne e.symm)) q5
  obtain ⟨u2, s2, w6, w7, e3, e4, m7, f6, f7, q7⟩ := entry_run hnow5 k (q5 _ _ hr5) Hg.out
  simp only [goInt] at e1 e2 e3 e4
  have hdd := map_ne_dev hD5.dur hD5.blk
  have hdn := map_ne_dev hD5.now hD5.blk
  have b5 : DevB w5 d (.map (some rd)) (.map (some rn)) (.slice A 0 c) st.fuse st.down := (f5.block _ hD5.blk.lt (fun e => hdd e.symm)).trans hD5.blk
  have b4 : DevB w4 d (.map (some rd)) (.map (some rn)) (.slice A 0 c) st.fuse st.down := (f4.block _ hD5.blk.lt (fun e => hdd e.symm)).trans hD5.blk
  have b6 : DevB w6 d (.map (some rd)) (.map (some rn)) (.slice A 0 c) st.fuse st.down := (f6.block _ b5.lt (fun e => hdn e.symm)).trans b5
  have b7 : DevB w7 d (.map (some rd)) (.map (some rn)) (.slice A 0 c) st.fuse st.down := (f7.block _ b5.lt (fun e => hdn e.symm)).trans b5
  have x30 : w3.drew.cell? ⟨d, 0, none⟩ = some (.map (some rd)) := hD5.blk.c0
  have x31 : w3.drew.cell? ⟨d, 1, none⟩ = some (.map (some rn)) := hD5.blk.c1
  have x40 := b4.c0
  have x41 := b4.c1
  have x50 := b5.c0
  have x51 := b5.c1
  have x60 := b6.c0
  have x61 := b6.c1
  have x70 := b7.c0
  have x71 := b7.c1
  have Hxx := Lib.hid hx
  have HD5 := Lib.hid hD5
  have HM5 := Lib.hid m5
  have HM7 := Lib.hid m7
  have HF5 := Lib.hid f5
  have HF7 := Lib.hid f7
  have HQ5 := Lib.hid q5
  have HQ7 := Lib.hid q7
  have HB7 := Lib.hid b7
  have HFr := Lib.hid hfr5
  clear hod hb03 hff3 hoo3 ho3 hb4 hs hr3 hx hb5 hr5 hD5 hfr5 m5 m7 f4 f5 f6 f7 q5 q7 b4 b5 b6 b7 hnow5 hlk c0
  have hS3 : w3.drew.cell? ⟨d, 0, none⟩ = some (.map (some rd)) ∧ w3.drew.cell? ⟨d, 1, none⟩ = some (.map (some rn)) := ⟨x30, x31⟩
  go_region_held3 (fun w' => w'.cell? ⟨d, 0, none⟩ = some (.map (some rd)) ∧ w'.cell? ⟨d, 1, none⟩ = some (.map (some rn)))
    (exact ⟨by assumption, by assumption⟩)
    (first | fail)
  go_wp2
  go_ret
  rw [Hxx.out]
  have hnd := map_ne_own HD5.out.dur HD5.out.own
  have hnn := map_ne_own HD5.out.now HD5.out.own
  have hq := HQ5.out.trans HQ7.out
  refine ⟨rfl, S, ⟨rd, rn, .slice A 0 c, cells, HB7.out, HM5.out.move (HF7.out.block _ HM5.out.lt HD5.out.ne) HQ7.out, HM7.out, ?_, HD5.out.ops.move hq, HD5.out.ne, HD5.out.base, HD5.out.set⟩, ?_, fun i hi => .inl hi⟩
  · refine own_block HD5.out.own fun i hi => (HF7.out.block i ?_ ?_).trans (HF5.out.block i (own_lt HD5.out.own hi) ?_)
    · exact Nat.lt_of_lt_of_le (own_lt HD5.out.own hi) HF5.out.size
    · rintro rfl; exact hnn hi
    · rintro rfl; exact hnd hi
  · exact (HFr.out.trans (HF5.out.mono fun i _ e => (HD5.out.set i).2 (.inr (.inl e)))).trans (HF7.out.mono fun i _ e => (HD5.out.set i).2 (.inr (.inr (.inl e))))
theorem flip_ok_N {w0 w : World} {d : Nat} {st st' : DS} (h : DevN w0 w d st) {k : ByteArray} {off bit : Int} {b b' : List Int} (he : { st with dur := st.dur.put k (flipAt b off bit), now := st.now.put k (flipAt b off bit) } = st') (hk : k.size ≤ 9223372036854775807) (hl : b.length ≤ 4194304) (hv : valid k = true) (hg : st.now.get k = some b) (hgd : st.dur.get k = some b')
    (hp : st.pend = []) (h0 : 0 ≤ off) (h1 : off < b.length) (h2 : 0 ≤ bit) (h3 : bit ≤ 7) :
    Calls Try.prog 28 #[.pointer (some ⟨d, 0, none⟩), .string k, .int .i64 off, .int .i64 bit] w fun e w' => e = .returned (.int .i64 0) ∧ DevN w0 w' d st' ∧ U8 w w' := by
  obtain ⟨S, k1, k2, k3⟩ := h
  refine (flip_ok k1 k off bit hk hl hv hg hgd hp h0 h1 h2 h3).mono ?_
  rintro e w' ⟨rfl, hR⟩
  rw [he] at hR
  exact ⟨rfl, DevN.step k1 k2 k3 hR⟩
end Go.Proofs.Ytjcjgeneehhgbaa.Dev
