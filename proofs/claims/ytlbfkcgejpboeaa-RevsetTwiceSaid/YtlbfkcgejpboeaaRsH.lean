/-
  The reference's Members and Check; many; eq.
-/
import Derived.Test.YtlbfkcgejpboeaaRsG
namespace Go.Proofs.Ytlbfkcgejpboeaa.Rs
open Go.RowKit Go.Proofs Go.Sort
set_option linter.unusedVariables false
set_option linter.unusedSimpArgs false
set_option linter.unusedSectionVars false

set_option maxHeartbeats 1000000 in
set_option maxRecDepth 20000 in
theorem rcheck_calls {w : World} {v : Value} {rs : List R} (h : RdR w v rs) :
    Calls Try.prog 19 #[v] w fun e w' => e = .returned (.int .i64 (chkE rs)) ∧ Below w.heap.size w w' := by
  have H := Lib.hid h
  obtain ⟨a, c, rfl, h1, h2, _⟩ := h
  have hm : Try.prog.follows .mixedOrders = true := by kernel_rfl
  go_enter Try.func19, Try.ntmps19
  go_wp2
  go_loopw [7] (fun i wr => ∃ k : Nat, k ≤ rs.length ∧ i = .int .i64 k ∧ (∀ j, j < k → okAt rs j) ∧ Below w.heap.size w wr) (fun i _ => rs.length - (intOf i).toNat)
  case atStart => exact ⟨0, Nat.zero_le _, rfl, fun _ h => by omega, Below.refl _ _⟩
  case round =>
    obtain ⟨k, hk, rfl, hok, hb⟩ := hrel
    have Hok := Lib.hid hok
    have HB := Lib.hid hb
    have hsz := hb.size
    clear hok hb
    by_cases hlt : k < rs.length
    · obtain ⟨g, o, rfl, hc⟩ := H.out.at_ hlt
      have x0 := cell_of_below HB.out (hc k hlt).1
      have x1 := cell_of_below HB.out (hc k hlt).2
      have hk0 : (0 : Int) ≤ (k : Int) := by omega
      have hk1 : (k : Int) < (rs.length : Int) := by omega
      have Hr : Hid (okAt rs k → ∀ j, j < k + 1 → okAt rs j) := Lib.hid (ok_succ Hok.out)
      have Hno := Lib.hid (okAt_false (l := rs) (k := k))
      cases hs : sound (rs.getD k (0, 0)) with
      | false =>
        have Hs := Lib.hid hs
        have hne : ¬ IsSet rs := fun hh => Hno.out hs (chk_iff.2 hh k hlt)
        have Hne := Lib.hid hne
        clear hs hne hc
        generalize rs.getD k (0, 0) = r at *
        obtain ⟨x, y⟩ := r
        go_wp2
        have hblk := heap_alloc_new wr (Obj.cells #[Value.int IntKind.i64 x, Value.int IntKind.i64 y] 29)
        have hba : Below wr.heap.size wr (wr.alloc (Obj.cells #[Value.int IntKind.i64 x, Value.int IntKind.i64 y] 29)) := (Below.refl _ _).alloc (Nat.le_refl _) _
        generalize wr.alloc (Obj.cells #[Value.int IntKind.i64 x, Value.int IntKind.i64 y] 29) = W at *
        have y0 := fun n os => cell_grown (w := W) (a := ⟨wr.heap.size, 0, none⟩) (Array.getElem?_eq_some_iff.1 hblk).1 ((cell_of_row W _ 0 _ _ _ hblk).trans rfl) n os
        have y1 := fun n os => cell_grown (w := W) (a := ⟨wr.heap.size, 1, none⟩) (Array.getElem?_eq_some_iff.1 hblk).1 ((cell_of_row W _ 1 _ _ _ hblk).trans rfl) n os
        have Hba := Lib.hid (below_trans HB.out hba)
        clear hblk hba x0 x1
        refine wp_region_quiet_grown (by assumption) (by kernel_rfl) ?_
        repeat (go_big_quiet_step ((go_at_call 38; exact rsound_grown Hs.out _ _ _)))
        refine wpQuiet_nil ?_
        intro _ hw'
        obtain ⟨⟨nq, osq⟩, hw''⟩ := hw'
        subst hw''
        have Hbg := Lib.hid (below_trans Hba.out (below_grow W nq osq))
        generalize grow (W.drewN nq) osq = wz at *
        go_wp2
        go_ret
        refine ⟨?_, Hbg.out⟩
        rw [chkE, if_neg Hne.out]
        rfl
      | true =>
        have Hs := Lib.hid hs
        have hS := sound_iff.1 hs
        rcases Nat.eq_zero_or_pos k with h0 | h0
        · have Hok1 : Hid (okAt rs k) := Lib.hid ⟨hS, fun h => by omega⟩
          have hd : decide ((0 : Int) < (k : Int)) = false := decide_eq_false (by omega)
          have hd' : decide (0 < k) = false := decide_eq_false (by omega)
          clear hs hS hc h0
          generalize rs.getD k (0, 0) = r at *
          obtain ⟨x, y⟩ := r
          go_wp2
          have hblk := heap_alloc_new wr (Obj.cells #[Value.int IntKind.i64 x, Value.int IntKind.i64 y] 29)
          have hba : Below wr.heap.size wr (wr.alloc (Obj.cells #[Value.int IntKind.i64 x, Value.int IntKind.i64 y] 29)) := (Below.refl _ _).alloc (Nat.le_refl _) _
          generalize wr.alloc (Obj.cells #[Value.int IntKind.i64 x, Value.int IntKind.i64 y] 29) = W at *
          have y0 := fun n os => cell_grown (w := W) (a := ⟨wr.heap.size, 0, none⟩) (Array.getElem?_eq_some_iff.1 hblk).1 ((cell_of_row W _ 0 _ _ _ hblk).trans rfl) n os
          have y1 := fun n os => cell_grown (w := W) (a := ⟨wr.heap.size, 1, none⟩) (Array.getElem?_eq_some_iff.1 hblk).1 ((cell_of_row W _ 1 _ _ _ hblk).trans rfl) n os
          have Hba := Lib.hid (below_trans HB.out hba)
          clear hblk hba x0 x1
          refine wp_region_quiet_grown (by assumption) (by kernel_rfl) ?_
          repeat (go_big_quiet_step ((go_at_call 38; exact rsound_grown Hs.out _ _ _)))
          refine wpQuiet_nil ?_
          intro _ hw'
          obtain ⟨⟨nq, osq⟩, hw''⟩ := hw'
          subst hw''
          have Hbg := Lib.hid (below_trans Hba.out (below_grow W nq osq))
          generalize grow (W.drewN nq) osq = wz at *
          go_wp2
          refine ⟨⟨k + 1, by omega, by go_num, Hr.out Hok1.out, Hbg.out⟩, by simp [intOf]; omega⟩
        · obtain ⟨m, rfl⟩ : ∃ m, k = m + 1 := ⟨k - 1, by omega⟩
          have hd : decide ((0 : Int) < ((m + 1 : Nat) : Int)) = true := decide_eq_true (by omega)
          have hd' : decide (0 < m + 1) = true := by simp
          have hP := (Hok.out m (by omega)).1
          have Hok1 : Hid ((rs.getD m (0, 0)).2 + 2 ≤ (rs.getD (m + 1) (0, 0)).1 ↔ okAt rs (m + 1)) := Lib.hid ⟨fun h => ⟨hS, fun _ => h⟩, fun h => h.2 (by omega)⟩
          have z0 := cell_of_below HB.out (hc m (by omega)).1
          have z1 := cell_of_below HB.out (hc m (by omega)).2
          have Hno2 : Hid (¬ okAt rs (m + 1) → ¬ IsSet rs) := Lib.hid fun h hh => h (chk_iff.2 hh _ hlt)
          clear hs hS hc h0 Hno
          generalize rs.getD (m + 1) (0, 0) = r at *
          generalize rs.getD m (0, 0) = p at *
          obtain ⟨x, y⟩ := r
          obtain ⟨px, py⟩ := p
          obtain ⟨hp1, hp2, hp3⟩ := hP
          simp only at hp1 hp2 hp3
          have hw1 : IntKind.i64.wrap (py + 2) = py + 2 := IntWalk.i64_in _ (by omega)
          by_cases hle : py + 2 ≤ x
          · have hdd : decide (x < py + 2) = false := decide_eq_false (by omega)
            have Hle := Lib.hid hle
            clear hle
            go_wp2
            have hblk := heap_alloc_new wr (Obj.cells #[Value.int IntKind.i64 x, Value.int IntKind.i64 y] 29)
            have hba : Below wr.heap.size wr (wr.alloc (Obj.cells #[Value.int IntKind.i64 x, Value.int IntKind.i64 y] 29)) := (Below.refl _ _).alloc (Nat.le_refl _) _
            generalize wr.alloc (Obj.cells #[Value.int IntKind.i64 x, Value.int IntKind.i64 y] 29) = W at *
            have y0 := fun n os => cell_grown (w := W) (a := ⟨wr.heap.size, 0, none⟩) (Array.getElem?_eq_some_iff.1 hblk).1 ((cell_of_row W _ 0 _ _ _ hblk).trans rfl) n os
            have y1 := fun n os => cell_grown (w := W) (a := ⟨wr.heap.size, 1, none⟩) (Array.getElem?_eq_some_iff.1 hblk).1 ((cell_of_row W _ 1 _ _ _ hblk).trans rfl) n os
            have y2 := fun n os => cell_grown (w := W) (a := ⟨g, o + m * 2, none⟩) (World.block_lt_of_cell? _ _ (cell_of_below hba z0)) (cell_of_below hba z0) n os
            have y3 := fun n os => cell_grown (w := W) (a := ⟨g, o + m * 2 + 1, none⟩) (World.block_lt_of_cell? _ _ (cell_of_below hba z1)) (cell_of_below hba z1) n os
            have Hba := Lib.hid (below_trans HB.out hba)
            clear hblk hba x0 x1
            refine wp_region_quiet_grown (by assumption) (by kernel_rfl) ?_
            repeat (go_big_quiet_step ((go_at_call 38; exact rsound_grown Hs.out _ _ _)))
            refine wpQuiet_nil ?_
            intro _ hw'
            obtain ⟨⟨nq, osq⟩, hw''⟩ := hw'
            subst hw''
            have Hbg := Lib.hid (below_trans Hba.out (below_grow W nq osq))
            generalize grow (W.drewN nq) osq = wz at *
            go_wp2
            refine ⟨⟨m + 1 + 1, by omega, by go_num, Hr.out (Hok1.out.1 Hle.out), Hbg.out⟩, by simp [intOf]; omega⟩
          · have hdd : decide (x < py + 2) = true := decide_eq_true (by omega)
            have Hle := Lib.hid hle
            clear hle
            go_wp2
            have hblk := heap_alloc_new wr (Obj.cells #[Value.int IntKind.i64 x, Value.int IntKind.i64 y] 29)
            have hba : Below wr.heap.size wr (wr.alloc (Obj.cells #[Value.int IntKind.i64 x, Value.int IntKind.i64 y] 29)) := (Below.refl _ _).alloc (Nat.le_refl _) _
            generalize wr.alloc (Obj.cells #[Value.int IntKind.i64 x, Value.int IntKind.i64 y] 29) = W at *
            have y0 := fun n os => cell_grown (w := W) (a := ⟨wr.heap.size, 0, none⟩) (Array.getElem?_eq_some_iff.1 hblk).1 ((cell_of_row W _ 0 _ _ _ hblk).trans rfl) n os
            have y1 := fun n os => cell_grown (w := W) (a := ⟨wr.heap.size, 1, none⟩) (Array.getElem?_eq_some_iff.1 hblk).1 ((cell_of_row W _ 1 _ _ _ hblk).trans rfl) n os
            have y2 := fun n os => cell_grown (w := W) (a := ⟨g, o + m * 2, none⟩) (World.block_lt_of_cell? _ _ (cell_of_below hba z0)) (cell_of_below hba z0) n os
            have y3 := fun n os => cell_grown (w := W) (a := ⟨g, o + m * 2 + 1, none⟩) (World.block_lt_of_cell? _ _ (cell_of_below hba z1)) (cell_of_below hba z1) n os
            have Hba := Lib.hid (below_trans HB.out hba)
            clear hblk hba x0 x1
            refine wp_region_quiet_grown (by assumption) (by kernel_rfl) ?_
            repeat (go_big_quiet_step ((go_at_call 38; exact rsound_grown Hs.out _ _ _)))
            refine wpQuiet_nil ?_
            intro _ hw'
            obtain ⟨⟨nq, osq⟩, hw''⟩ := hw'
            subst hw''
            have Hbg := Lib.hid (below_trans Hba.out (below_grow W nq osq))
            generalize grow (W.drewN nq) osq = wz at *
            go_wp2
            go_ret
            refine ⟨?_, Hbg.out⟩
            rw [chkE, if_neg (Hno2.out fun h => absurd (Hok1.out.2 h) (by have := Hle.out; omega))]
            rfl
    · have hkk : k = rs.length := by omega
      have hset : IsSet rs := chk_iff.1 fun j hj => Hok.out j (by omega)
      have Hset := Lib.hid hset
      clear hset hkk
      go_wp2
      go_ret
      refine ⟨?_, HB.out⟩
      rw [chkE, if_pos Hset.out]
      rfl
theorem take_step {l : List Int} {most z : Int} (h : ¬ most ≤ (((l.take most.toNat).length : Nat) : Int)) : (l ++ [z]).take most.toNat = l.take most.toNat ++ [z] := by
  rw [List.length_take] at h
  have h1 : l.length < most.toNat := by omega
  rw [List.take_of_length_le (by simp; omega), List.take_of_length_le (by omega)]
theorem take_full {l m : List Int} {most : Int} (h : most ≤ (((l.take most.toNat).length : Nat) : Int)) (hp : l <+: m) : m.take most.toNat = l.take most.toNat := by
  obtain ⟨t, rfl⟩ := hp
  rw [List.length_take] at h
  rw [List.take_append_of_le_length (by omega)]
theorem take_le (l : List Int) {most : Int} (hm : most ≤ 2000) : (l.take most.toNat).length ≤ 2000 := by
  rw [List.length_take]; omega
set_option maxHeartbeats 2000000 in
set_option maxRecDepth 20000 in
theorem rmembers_calls {w : World} {v : Value} {rs : List R} {most : Int} (h : RdR w v rs) (hs : IsSet rs) (hl : rs.length ≤ 1000000) (hm : most ≤ 2000) :
    Calls Try.prog 20 #[v, .int .i64 most] w fun e w' => ∃ u, e = .returned u ∧ RdI w' u ((expand rs).take most.toNat) ∧ Below w.heap.size w w' := by
  have H := Lib.hid h
  have Hs := Lib.hid hs
  obtain ⟨a, c, rfl, h1, h2, _⟩ := h
  clear hs
  go_enter Try.func20, Try.ntmps20
  go_wp2
  go_loopw [5, 11] (fun t i wr => ∃ k : Nat, k ≤ rs.length ∧ i = .int .i64 k ∧ wr.ownsRow w.heap.size 3 1 t ((expand (rs.take k)).take most.toNat).length (cI ((expand (rs.take k)).take most.toNat)) ∧ Below w.heap.size w wr) (fun _ i _ => rs.length - (intOf i).toNat)
  case atStart => exact ⟨0, Nat.zero_le _, rfl, by simpa [expand, cI] using own_nil w w.heap.size 3 1, Below.refl _ _⟩
  case round =>
    obtain ⟨k, hk, rfl, ho, hb⟩ := hrel
    have HB := Lib.hid hb
    have HO := Lib.hid ho
    clear hb
    by_cases hlt : k < rs.length
    · obtain ⟨g, o, rfl, hc⟩ := H.out.at_ hlt
      have x0 := cell_of_below HB.out (hc k hlt).1
      have x1 := cell_of_below HB.out (hc k hlt).2
      have Hsn := Lib.hid (expand_snoc hlt)
      have Hpre := Lib.hid (fun j => expand_prefix (j := j) hlt)
      obtain ⟨hS1, hS2, hS3⟩ := Hs.out.1 _ (getD_mem hlt)
      clear hc ho
      rw [nums_eq] at Hsn
      generalize expand (rs.take k) = E at *
      generalize rs.getD k (0, 0) = r at *
      obtain ⟨x, y⟩ := r
      simp only at hS1 hS2 hS3 Hpre Hsn
      obtain ⟨L, hL⟩ : ∃ L : Nat, (L : Int) = y - x + 1 := ⟨(y - x + 1).toNat, by omega⟩
      have hLt : (y - x + 1).toNat = L := by omega
      rw [hLt] at Hpre Hsn
      have hyx : y = x + L - 1 := by omega
      have hLb : (L : Int) ≤ 1073741824 := by omega
      have hx9 : x ≤ 1073741824 := by omega
      clear hL hLt hS2 hS3
      subst hyx
      go_wp2
      have hblk := heap_alloc_new wr (Obj.cells #[Value.int IntKind.i64 x, Value.int IntKind.i64 (x + L - 1)] 29)
      have HB1 := Lib.hid (below_box HB.out (Obj.cells #[Value.int IntKind.i64 x, Value.int IntKind.i64 (x + L - 1)] 29))
      have hba : Below wr.heap.size wr (wr.alloc (Obj.cells #[Value.int IntKind.i64 x, Value.int IntKind.i64 (x + L - 1)] 29)) := (Below.refl _ _).alloc (Nat.le_refl _) _
      have HO1 := Lib.hid (HO.out.alloc (Obj.cells #[Value.int IntKind.i64 x, Value.int IntKind.i64 (x + L - 1)] 29))
      have hsz : w.heap.size ≤ wr.heap.size := HB.out.size
      obtain ⟨bx, hbx⟩ : ∃ bx, bx = wr.heap.size := ⟨_, rfl⟩
      rw [← hbx]
      rw [← hbx] at hblk hsz
      have Hne : Hid (∀ t n, (wr.alloc (Obj.cells #[Value.int IntKind.i64 x, Value.int IntKind.i64 (x + L - 1)] 29)).ownsRow w.heap.size 3 1 t n (cI (E.take most.toNat)) → t.ownBlock ≠ some bx) := Lib.hid fun t n ho he => by
        rcases ho.2 with ⟨rfl, _⟩ | ⟨g, cap, cur, rfl, _, hh, _⟩
        · simp [Value.ownBlock] at he
        · have : g = bx := by simpa [Value.ownBlock] using he
          subst this
          rw [hblk] at hh
          injection hh with hh
          injection hh with _ hh _
          exact absurd hh (by decide)
      clear hbx
      have Hblk := Lib.hid hblk
      clear x0 x1 hba hblk
      generalize wr.alloc (Obj.cells #[Value.int IntKind.i64 x, Value.int IntKind.i64 (x + L - 1)] 29) = W at *
      go_loopw [5, 8] (fun t i wz => ∃ j : Nat, j ≤ L ∧ i = .int .i64 (x + j) ∧ wz.ownsRow w.heap.size 3 1 t ((E ++ numsP x j).take most.toNat).length (cI ((E ++ numsP x j).take most.toNat)) ∧ wz.heap[bx]? = some (Obj.cells #[Value.int IntKind.i64 x, Value.int IntKind.i64 (x + L - 1)] 29 (0, 0)) ∧ Below w.heap.size w wz) (fun _ i _ => (x + L - intOf i).toNat)
      case atStart => exact ⟨0, Nat.zero_le _, by simp, by simpa [numsP] using HO1.out, Hblk.out, HB1.out⟩
      case round =>
        obtain ⟨j, hj, rfl, ho2, hbk, hb2⟩ := hrel
        have HB2 := Lib.hid hb2
        have HO2 := Lib.hid ho2
        have Hbk := Lib.hid hbk
        have Hsucc : Hid (E ++ numsP x (j + 1) = (E ++ numsP x j) ++ [x + (j : Int)]) := Lib.hid (by rw [numsP_succ, List.append_assoc])
        have Hstep := Lib.hid (take_step (l := E ++ numsP x j) (most := most) (z := x + (j : Int)))
        have Hpp : Hid (E ++ numsP x j <+: E ++ numsP x L) := Lib.hid ((List.prefix_append_right_inj _).2 (by
          obtain ⟨d, rfl⟩ := Nat.exists_eq_add_of_le hj
          refine ⟨(List.range d).map fun (i : Nat) => x + (((j + i : Nat)) : Int), ?_⟩
          unfold numsP
          rw [List.range_add, List.map_append, List.map_map]
          rfl))
        have Hfull := Lib.hid (fun h => take_full (l := E ++ numsP x j) (m := E ++ numsP x L) (most := most) h Hpp.out)
        have hle3 := take_le (E ++ numsP x j) hm
        have y0 : wr.cell? ⟨bx, 0, none⟩ = some (.int .i64 x) := (cell_of_row wr _ 0 _ _ _ hbk).trans rfl
        have y1 : wr.cell? ⟨bx, 1, none⟩ = some (.int .i64 (x + L - 1)) := (cell_of_row wr _ 1 _ _ _ hbk).trans rfl
        clear hb2 ho2 hbk Hpp
        have hsz2 := HB2.out.size
        by_cases hjl : j < L
        · have hd : decide (x + (j : Int) ≤ x + (L : Int) - 1) = true := decide_eq_true (by omega)
          rw [← Hsucc.out] at Hstep
          generalize (E ++ numsP x j).take most.toNat = F at *
          by_cases hfull : most ≤ ((F.length : Nat) : Int)
          · have hd2 : decide (((F.length : Nat) : Int) < most) = false := decide_eq_false (by omega)
            have hE : F = (expand (rs.take (k + 1))).take most.toNat := by rw [Hsn.out]; exact (Hfull.out hfull).symm
            have HE := Lib.hid hE
            clear hfull hE Hfull Hstep
            obtain ⟨A, cc, rfl⟩ := own_form HO2.out
            go_wp2
            refine ⟨⟨k + 1, by omega, by go_num, ?_, HB2.out⟩, by simp [intOf]; omega⟩
            rw [← HE.out]
            exact HO2.out
          · have hd2 : decide (((F.length : Nat) : Int) < most) = true := decide_eq_true (by omega)
            have Hst := Lib.hid (Hstep.out hfull)
            clear hfull Hfull Hstep
            obtain ⟨A, cc, rfl⟩ := own_form HO2.out
            go_wp2_with (at_builtin; refine wpList_append_I w.heap.size rfl _ _ rfl _ _ F [x + (j : Int)] rfl rfl (HO2.out.alloc _) (RdI.block1 (heap_alloc_new wr _)) (by simp; omega) (by simp; omega) ?_; intro v1 w1 ho hg; have HO3 := Lib.hid ho; have HG3 := Lib.hid hg; clear ho hg)
            have hA : Below wr.heap.size wr (wr.alloc (.cells #[Value.int IntKind.i64 (x + (j : Int))] 3)) := (Below.refl _ _).alloc (Nat.le_refl _) _
            have hbb := below_trans HB2.out hA
            refine ⟨⟨j + 1, by omega, by simp; omega, by rw [Hst.out]; exact HO3.out, ?_, below_of_grown hbb (HO2.out.alloc _) HG3.out⟩, by simp [intOf]; omega⟩
            have e1 : (wr.alloc (.cells #[Value.int IntKind.i64 (x + (j : Int))] 3)).heap[bx]? = some (Obj.cells #[Value.int IntKind.i64 x, Value.int IntKind.i64 (x + L - 1)] 29 (0, 0)) :=
              (hA.block bx (Array.getElem?_eq_some_iff.1 Hbk.out).1).trans Hbk.out
            rw [HG3.out.block bx (Array.getElem?_eq_some_iff.1 e1).1 (fun e => ?_)]
            · exact e1
            · rcases HO2.out.2 with ⟨he, _⟩ | ⟨g, cap, cur, he, _, hh, _⟩
              · rw [he] at e; cases e
              · rw [he] at e
                have : bx = g := Option.some.inj e
                subst this
                rw [Hbk.out] at hh
                injection hh with hh
                injection hh with _ hh _
                exact absurd hh (by decide)
        · obtain rfl : j = L := by omega
          have hd : decide (x + (j : Int) ≤ x + (j : Int) - 1) = false := decide_eq_false (by omega)
          clear Hfull Hstep hle3
          rw [← Hsn.out] at HO2
          go_wp2
          exact ⟨⟨k + 1, by omega, by go_num, HO2.out, HB2.out⟩, by simp [intOf]; omega⟩
    · have hf : rs.take k = rs := List.take_of_length_le (by omega)
      rw [hf] at ho
      have HO2 := Lib.hid ho
      obtain ⟨A, cc, rfl⟩ := own_form ho
      clear ho hf HO
      go_wp2
      go_ret
      refine ⟨.slice A ((expand rs).take most.toNat).length cc, rfl, RdI.own HO2.out, HB.out⟩

theorem rcheck_is {w : World} {v : Value} {rs : List R} {e0 : Int} (h : RdR w v rs) (he : chkE rs = e0) :
    Calls Try.prog 19 #[v] w fun e w' => e = .returned (.int .i64 e0) ∧ Below w.heap.size w w' := by
  rw [← he]; exact rcheck_calls h
theorem members_not {w : World} {v : Value} {rs : List R} {most : Int} (h : RdR w v rs) (hs : ¬ IsSet rs) :
    Calls Try.prog 17 #[v, .int .i64 most] w fun e w' => e = .returned (.tuple #[.slice none 0 0, .int .i64 120]) ∧ Below w.heap.size w w' := by
  have H := Lib.hid h
  have Hs := Lib.hid hs
  obtain ⟨a, c, rfl, h1, h2, _⟩ := h
  clear hs
  go_enter Try.func17, Try.ntmps17
  go_wp2_with fail
  refine (check_is H.out (chkE_no Hs.out)).mono ?_
  rintro e w1 ⟨rfl, hw⟩
  have HW := Lib.hid hw
  clear hw
  go_wp2
  exact bodyPost_ret (v := .tuple #[.slice none 0 0, .int .i64 120]) (by simp [results, Try.results17, go_sem]) rfl ⟨rfl, HW.out⟩
theorem eq_calls {w : World} {v u : Value} {rs qs : List R} (h : RdR w v rs) (hq : RdR w u qs) :
    Calls Try.prog 24 #[v, u] w fun e w' => e = .returned (.bool (decide (rs = qs))) ∧ Below w.heap.size w w' := by
  have hc := same_calls h hq
  have HC := Lib.hid hc
  generalize decide (rs = qs) = b at *
  clear hc h hq
  go_enter Try.func24, Try.ntmps24
  go_wp2_with fail
  refine HC.out.mono ?_
  rintro e w1 ⟨rfl, hw⟩
  have HW := Lib.hid hw
  clear hw
  go_wp2
  go_ret
  exact ⟨rfl, HW.out⟩

/-- lists among which none is too long, or one is -/
theorem many_calls {w : World} {g : Nat} {vs : List Value} {ls : List (List R)} (hn : vs.length = ls.length) (hc : ∀ i, i < vs.length → w.cell? ⟨g, i, none⟩ = some (vs.getD i undef)) (hr : ∀ i, i < vs.length → RdR w (vs.getD i undef) (ls.getD i [])) (hl : vs.length ≤ 100) :
    Calls Try.prog 11 #[.slice (some ⟨g, 0, none⟩) vs.length vs.length] w fun e w' => e = .returned (.bool (ls.any fun l => decide (40 < l.length))) ∧ w = w' := by
  have HC := Lib.hid hc
  have HR := Lib.hid hr
  have Hn := Lib.hid hn
  have hn1 : vs.length ≤ ls.length := by omega
  have hn2 : ls.length ≤ vs.length := by omega
  have Hany : Hid (∀ i, i < vs.length → 40 < (ls.getD i []).length → (ls.any fun l => decide (40 < l.length)) = true) := Lib.hid fun i hi h => List.any_eq_true.2 ⟨ls.getD i [], by
    rw [List.getD_eq_getElem?_getD, List.getElem?_eq_getElem (by omega)]; exact List.getElem_mem _, decide_eq_true h⟩
  have Hnone : Hid ((∀ i, i < vs.length → ¬ 40 < (ls.getD i []).length) → (ls.any fun l => decide (40 < l.length)) = false) := Lib.hid fun h => by
    rw [List.any_eq_false]
    intro l hl2
    obtain ⟨i, hi, rfl⟩ := List.mem_iff_getElem.1 hl2
    have := h i (by omega)
    rw [List.getD_eq_getElem?_getD, List.getElem?_eq_getElem hi] at this
    simpa using this
  clear hc hr hn
  generalize (ls.any fun l => decide (40 < l.length)) = b at *
  go_enter Try.func11, Try.ntmps11
  go_wp2
  go_loop [7] (fun i => ∃ k : Nat, k ≤ vs.length ∧ i = .int .i64 k ∧ ∀ i, i < k → ¬ 40 < (ls.getD i []).length) (fun i => vs.length - (intOf i).toNat)
  case atStart => exact ⟨0, Nat.zero_le _, rfl, fun _ h => by omega⟩
  case round =>
    obtain ⟨k, hk, rfl, hok⟩ := hrel
    have Hok := Lib.hid hok
    clear hok
    by_cases hlt : k < vs.length
    · have hcell := HC.out k hlt
      obtain ⟨A, cc, hv, h1, h2, _⟩ := HR.out k hlt
      rw [hv] at hcell
      have Hany2 := Lib.hid (Hany.out k hlt)
      have Hstep : Hid (¬ 40 < (ls.getD k []).length → ∀ i, i < k + 1 → ¬ 40 < (ls.getD i []).length) := Lib.hid fun h i hi => by
        rcases Nat.lt_or_ge i k with e | e
        · exact Hok.out i e
        · obtain rfl : k = i := by omega
          exact h
      clear hv
      generalize (ls.getD k []).length = m at *
      by_cases h40 : 40 < m
      · have hd : decide ((40 : Int) < (m : Int)) = true := decide_eq_true (by omega)
        have hd' : decide (40 < m) = true := decide_eq_true (by omega)
        have Hb := Lib.hid (Hany2.out h40)
        clear h40
        go_wp2
        go_ret
        refine ⟨?_, rfl⟩
        rw [Hb.out]
        rfl
      · have hd : decide ((40 : Int) < (m : Int)) = false := decide_eq_false (by omega)
        have hd' : decide (40 < m) = false := decide_eq_false (by omega)
        have Hs := Lib.hid (Hstep.out h40)
        clear h40
        go_wp2
        exact ⟨⟨k + 1, by omega, by go_num, Hs.out⟩, by simp [intOf]; omega⟩
    · have Hb := Lib.hid (Hnone.out fun i hi => Hok.out i (by omega))
      go_wp2
      go_ret
      refine ⟨?_, rfl⟩
      rw [Hb.out]
      rfl
end Go.Proofs.Ytlbfkcgejpboeaa.Rs
