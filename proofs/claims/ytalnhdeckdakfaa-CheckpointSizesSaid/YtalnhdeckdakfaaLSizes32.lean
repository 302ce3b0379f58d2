/-
  CheckpointSizes, walked: the law's function returns true and writes nothing elder.
-/
import Derived.Test.YtalnhdeckdakfaaLEvery32
namespace Go.Proofs.Ytalnhdeckdakfaa.Dev
open Go.RowKit Go.Proofs Co
set_option linter.unusedVariables false
set_option linter.unusedSectionVars false
set_option linter.unusedSimpArgs false
variable [Bs]

theorem made_u8s (n : Nat) : madeCells #[Value.int .u8 0] n = (u8s (List.replicate n 0)).toArray := by
  apply Array.ext
  · simp [size_madeCells, u8s]
  · intro i h1 h2
    simp only [madeCells, u8s, Array.getElem_map, List.getElem_toArray, List.getElem_map, List.getElem_replicate]
    have : ∀ j : Nat, (#[Value.int .u8 0] : Array Value)[j % (#[Value.int .u8 0] : Array Value).size]! = Value.int .u8 0 := fun j => by
      have : j % (#[Value.int .u8 0] : Array Value).size = 0 := Nat.mod_one j
      rw [this]; rfl
    exact this _
theorem set_u8s (xs : List Int) (i : Nat) (x : Int) : (u8s xs).toArray.setIfInBounds i (.int .u8 x) = (u8s (xs.set i x)).toArray := by
  simp [u8s, List.map_set]
theorem zeros_set {n i : Nat} {x : Int} (hx : 0 ≤ x ∧ x < 256) : BL ((List.replicate n 0).set i x) := fun y hy => by
  rcases List.mem_or_eq_of_mem_set hy with h | rfl
  · have := List.eq_of_mem_replicate h; omega
  · exact hx
/-- a Save of too long a state -/
theorem save_long {m : Nat} {d : DS} (h : Clean m d) {k : ByteArray} (hk : vname k = true) {c : CP} (hc : At k c d.dur) {pos : Int} (h0 : 0 ≤ pos) (h1 : (c.pos : Int) ≤ pos) {b : List Int} (hb : 2097152 < b.length) : saveD d k pos b = (d, 320) := by
  unfold saveD
  rw [newest_clean h hk hc, if_neg (by rw [hk]; simp), if_neg (by simp), if_neg (by simp only; omega), if_pos hb]

set_option maxHeartbeats 4000000 in
set_option maxRecDepth 100000 in
theorem sizes_walk {w : World} (hB : Bs.n = w.heap.size) {nn x : Int} (hnn : -9223372036854775808 ≤ nn ∧ nn ≤ 9223372036854775807) (hx : 0 ≤ x ∧ x < 256) :
    Calls Try.prog 4 #[.int .i64 nn, .int .u8 x] w fun e w' => e = .returned (.bool true) ∧ Below w.heap.size w w' := by
  have Hn := Lib.hid hnn
  have Hx := Lib.hid hx
  clear hnn hx
  have hq : Bs.n ≤ w.heap.size := Nat.le_of_eq hB
  have hS := fun d st => (stable_dev d st).star stable_emp
  have bx : BL [x] := fun y hy => by rw [List.mem_singleton.1 hy]; exact Hx.out
  obtain ⟨s1, C1, A1'⟩ := save_still Clean.new (by omega) vC (At.new kC) (by show 0 < 4611686018427387904; decide) (pos := 1) (by decide) (by decide) (by decide) (b := [x]) (by simp) rfl bx
  have Hs1 := Lib.hid s1
  have HC1 := Lib.hid C1
  have HA1 := Lib.hid A1'
  clear s1 C1 A1'
  have hfz : (saved DS.new kC ⟨CP.zero.turn + 1, (1 : Int).toNat, [x]⟩ 0 0).fuse = 0 := rfl
  generalize hst1 : saved DS.new kC ⟨CP.zero.turn + 1, (1 : Int).toNat, [x]⟩ 0 0 = st1 at *
  clear hst1 bx
  go_enter Try.func4, Try.ntmps4
  go_wp2_with fail
  refine (new_L stable_emp hq (LS.start w hB)).mono ?_
  rintro e w1 ⟨d, rfl, h1, hu1⟩
  have HL1 := Lib.hid h1
  clear h1 hu1
  go_wp2_with fail
  refine (known32_L (hS _ _) hq HL1.out).mono ?_
  rintro e w2 ⟨rfl, h1, hu⟩
  have HL2 := Lib.hid h1
  clear h1 hu HL1
  go_wp2_with fail
  have hl1 := HL2.out.below (hS _ _) (lit_below w2 _ (Nat.le_refl _) (Obj.cells #[Value.int .u8 x] 5))
  refine (save_L stable_emp hq hl1.1 Hs1.out DS.ok_new (leb (by kernel_rfl)) BOk.new sz0 (by decide) (rd_lit (heap_alloc_new w2 _) rfl (xs := [x]) rfl (leb rfl)) (by simp)).mono ?_
  rintro e w3 ⟨rfl, h1, hu⟩
  have HL3 := Lib.hid h1
  clear h1 hu hl1 HL2
  go_wp2_with fail
  refine (fold_calls w3 Hn.out (by omega)).mono ?_
  rintro e _ ⟨rfl, rfl⟩
  have hr0 := fold_range nn (n := 3) (by omega)
  obtain ⟨m, hm⟩ : ∃ m : Nat, 2097151 + fold nn 3 = (m : Int) := ⟨(2097151 + fold nn 3).toNat, by omega⟩
  have hm1 : 2097151 ≤ m := by omega
  have hm2 : m ≤ 2097153 := by omega
  generalize fold nn 3 = q at *
  clear hr0
  obtain ⟨i0, hi0, hzz⟩ := Option.map_eq_some_iff.1 info5
  simp only [Prod.mk.injEq] at hzz
  obtain ⟨hz0, hz1, hz2⟩ := hzz
  have hmk := run_make (P := Try.prog) w3 32 5 i0 _ Try.underlying32 hi0 hz0 .i64 .i64 (m : Int) (m : Int) (by omega) (by omega) (by rw [hz2]; omega) (by omega)
  rw [hz1] at hmk
  simp only [Int.toNat_natCast, Nat.mul_one] at hmk
  change (Instr.makeSlice 32 (.int .i64 (m : Int)) (.int .i64 (m : Int))).run Try.prog w3 = .ok (.slice (some ⟨w3.heap.size, 0, none⟩) m m) (w3.alloc (.cells (madeCells #[Value.int .u8 0] m) 5)) at hmk
  rw [made_u8s] at hmk
  clear hi0 hz0 hz1 hz2
  obtain ⟨p, hp⟩ : ∃ p : Nat, m = p + 1 := ⟨m - 1, by omega⟩
  have hp1 : (m : Int) - 1 = (p : Int) := by omega
  have hb4 := heap_alloc_new w3 (Obj.cells (u8s (List.replicate m 0)).toArray 5)
  have HB4 := Lib.hid hb4
  have h40 : (w3.alloc (Obj.cells (u8s (List.replicate m 0)).toArray 5)).cell? ⟨w3.heap.size, p, none⟩ = some (.int .u8 0) := by
    refine (blk_cell hb4 p).trans ?_
    simp [u8s, hp]
  have f40 := blk_frozen hb4 p
  have ha40 : (⟨w3.heap.size, 0, none⟩ : Addr).add p = ⟨w3.heap.size, p, none⟩ := add_plain _ _
  clear hb4
  have hlt1 : decide ((p : Int) < 0) = false := decide_eq_false (by omega)
  have hlt2 : decide ((p : Int) < (m : Int)) = true := decide_eq_true (by omega)
  have hlt3 : p < m := by omega
  have Hp := Lib.hid hp
  clear hp
  go_wp2_with fail
  have hset : (u8s (List.replicate m 0)).set p (Value.int .u8 x) = u8s ((List.replicate m 0).set p x) := by simp [u8s, List.map_set]
  rw [hset]
  have hlL : ((List.replicate m (0 : Int)).set p x).length = m := by simp
  have bL : BL ((List.replicate m (0 : Int)).set p x) := zeros_set Hx.out
  generalize (List.replicate m (0 : Int)).set p x = L at *
  have hl4 := HL3.out.below (hS _ _) (lit_below w3 _ (Nat.le_refl _) (Obj.cells (u8s L).toArray 5))
  have hrd : Rd (w3.alloc (Obj.cells (u8s L).toArray 5)) (.slice (some ⟨w3.heap.size, 0, none⟩) m m) L := rd_lit (heap_alloc_new w3 _) rfl hlL (by omega)
  have HRd := Lib.hid hrd
  have HL4 := Lib.hid hl4.1
  clear hl4 HL3 hset hmk h40 f40 ha40 HB4 hrd
  generalize w3.alloc (Obj.cells (u8s L).toArray 5) = w4 at *
  generalize w3.heap.size = g at *
  by_cases hbig : 2097152 < m
  · have hd : decide ((2097152 : Int) < (m : Int)) = true := decide_eq_true (by omega)
    have sv := save_long HC1.out vC HA1.out (pos := 1) (by decide) (by show ((1 : Nat) : Int) ≤ 1; decide) (b := L) (by omega)
    refine (save_L stable_emp hq HL4.out sv HC1.out.ok (by rw [HC1.out.pend]; exact leb (by kernel_rfl)) HC1.out.b sz0 (by decide) HRd.out (by omega)).mono ?_
    rintro e w5 ⟨rfl, h1, hu⟩
    have HL5 := Lib.hid h1
    clear h1 hu HL4
    go_wp2_with fail
    have hload := load_clean HC1.out vC HA1.out
    rw [if_neg (by show ¬ (1 : Nat) = 0; decide)] at hload
    refine (load32_L stable_emp hq HL5.out HC1.out.ok HC1.out.b sz0).mono ?_
    rw [hload]
    rintro e w6 ⟨v, rfl, hv, h1, hu⟩
    obtain ⟨A, c, rfl, hv1⟩ : ∃ A c, v = .slice A 1 c ∧ Rd w6 v [x] := by
      obtain ⟨A, c, e, h⟩ := hv
      exact ⟨A, c, e, ⟨A, c, e, h⟩⟩
    have HL6 := Lib.hid (h1.below (hS _ _) (lit_below w6 _ (Nat.le_refl _) (Obj.cells #[.int .i64 1, .slice A 1 c, .bool true] 34)))
    have HV6 := Lib.hid (HL6.out.2 _ _ hv1)
    clear h1 hu hv HL5 hload hv1
    generalize hw7 : w6.alloc (Obj.cells #[.int .i64 1, .slice A 1 c, .bool true] 34) = w7 at *
    have HL7 := Lib.hid (HL6.out.1.below (hS _ _) (lit_below w7 _ (Nat.le_refl _) (Obj.cells #[.int .u8 x] 5)))
    have t1 := run_string HV6.out
    have t2 := run_string (rd_lit (xs := [x]) (n := 1) (heap_alloc_new w7 (Obj.cells #[.int .u8 x] 5)) rfl rfl (by decide))
    rw [show w7.heap.size = w6.heap.size + 1 by rw [← hw7]; simp] at t2
    subst hw7
    go_wp2
    go_ret
    exact ⟨rfl, HL7.out.1.end hB⟩
  · have hd : decide ((2097152 : Int) < (m : Int)) = false := decide_eq_false (by omega)
    obtain ⟨sv, C2, A2⟩ := save_still HC1.out (by omega) vC HA1.out (by show 1 < 4611686018427387904; decide) (pos := 1) (by decide) (by show ((1 : Nat) : Int) ≤ 1; decide) (by decide) (b := L) (by omega) hfz bL
    have hload := load_clean C2 vC A2
    rw [if_neg (by show ¬ (2 : Nat) = 0; decide)] at hload
    refine (save_L stable_emp hq HL4.out sv HC1.out.ok (by rw [HC1.out.pend]; exact leb (by kernel_rfl)) HC1.out.b sz0 (by decide) HRd.out (by omega)).mono ?_
    rintro e w5 ⟨rfl, h1, hu⟩
    have HL5 := Lib.hid h1
    have HR5 := Lib.hid (hu _ _ HRd.out)
    have Ho := Lib.hid C2.ok
    have Hb := Lib.hid C2.b
    have Hload := Lib.hid hload
    clear h1 hu HL4 hload C2 A2 sv
    go_wp2_with fail
    refine (load32_L stable_emp hq HL5.out Ho.out Hb.out sz0).mono ?_
    rw [Hload.out]
    rintro e w6 ⟨v, rfl, hv, h1, hu⟩
    obtain ⟨A, c, rfl, hv1⟩ : ∃ A c, v = .slice A L.length c ∧ Rd w6 v L := by
      obtain ⟨A, c, e, h⟩ := hv
      exact ⟨A, c, e, ⟨A, c, e, h⟩⟩
    have HL6 := Lib.hid (h1.below (hS _ _) (lit_below w6 _ (Nat.le_refl _) (Obj.cells #[.int .i64 1, .slice A L.length c, .bool true] 34)))
    have t1 := run_string (HL6.out.2 _ _ hv1)
    have t2 := run_string (HL6.out.2 _ _ (hu _ _ HR5.out))
    rw [hlL] at *
    clear h1 hu HL5 hv1 Hload
    go_wp2
    go_ret
    exact ⟨rfl, HL6.out.1.end hB⟩
end Go.Proofs.Ytalnhdeckdakfaa.Dev
