/-
  The small functions of revset: sound, Check; each as the plain word for it.
-/
import Derived.Test.YtlbfkcgejpboeaaRsW
import Derived.Outline
import Derived.IntWalk
import Derived.Shelf.SlSortCmp.QuietGrown
namespace Go.Proofs.Ytlbfkcgejpboeaa.Rs
open Go.RowKit Go.Proofs Go.Sort
set_option linter.unusedVariables false
set_option linter.unusedSimpArgs false
set_option linter.unusedSectionVars false
attribute [local go_sem ↓] Go.wp_at_zero Go.wp_at_succ

theorem sound_calls (x y : Int) (w : World) : Calls Try.prog 31 #[.agg #[.int .i64 x, .int .i64 y]] w fun e w' => e = .returned (.bool (sound (x, y))) ∧ w' = w.alloc (.cells #[.int .i64 x, .int .i64 y] 29) := by
  unfold sound
  cases h1 : decide (1 ≤ x)
  all_goals cases h2 : decide (x ≤ y)
  all_goals cases h3 : decide (y ≤ 1073741824)
  all_goals
    go_enter Try.func31, Try.ntmps31
    go_wp2
    go_ret
    exact ⟨rfl, rfl⟩
theorem sound_is {x y : Int} {b : Bool} (h : sound (x, y) = b) (w : World) : Calls Try.prog 31 #[.agg #[.int .i64 x, .int .i64 y]] w fun e w' => e = .returned (.bool b) ∧ w' = w.alloc (.cells #[.int .i64 x, .int .i64 y] 29) := by
  rw [← h]; exact sound_calls x y w

theorem sound_grown {x y : Int} {b : Bool} (h : sound (x, y) = b) (w : World) (n : Nat) (os : Array Obj) : Calls Try.prog 31 #[.agg #[.int .i64 x, .int .i64 y]] (grow (w.drewN n) os) fun e w'' => e = .returned (.bool b) ∧ ∃ p : GrownBy, w'' = grow (w.drewN p.n) p.os :=
  Calls.grown_of ((sound_is h _).mono fun e w' h => ⟨h.1, 0, #[.cells #[.int .i64 x, .int .i64 y] 29], by rw [h.2, alloc_eq_grow]; rfl⟩)
theorem below_grow (W : World) (n : Nat) (os : Array Obj) : Below W.heap.size W (grow (W.drewN n) os) :=
  ⟨rfl, rfl, rfl, by simp [grow, World.drewN], fun i hi => by
    show (W.heap ++ os)[i]? = _
    rw [Array.getElem?_append_left hi]⟩
theorem okAt_false {l : List R} {k : Nat} (h : sound (l.getD k (0, 0)) = false) : ¬ okAt l k := fun g => by
  rw [sound_iff.2 g.1] at h; cases h

theorem ok_succ {l : List R} {k : Nat} (h : ∀ j, j < k → okAt l j) (hk : okAt l k) : ∀ j, j < k + 1 → okAt l j := by
  intro j hj
  rcases Nat.lt_or_ge j k with e | e
  · exact h j e
  · obtain rfl : k = j := by omega
    exact hk

set_option maxHeartbeats 1000000 in
set_option maxRecDepth 20000 in
theorem check_calls {w : World} {v : Value} {rs : List R} (h : RdR w v rs) :
    Calls Try.prog 15 #[v] w fun e w' => e = .returned (.int .i64 (chkE rs)) ∧ Below w.heap.size w w' := by
  have H := Lib.hid h
  obtain ⟨a, c, rfl, h1, h2, _⟩ := h
  have hm : Try.prog.follows .mixedOrders = true := by kernel_rfl
  go_enter Try.func15, Try.ntmps15
  go_wp2
  go_loopw [7] (fun i wr => ∃ k : Nat, k ≤ rs.length ∧ i = .int .i64 k ∧ (∀ j, j < k → okAt rs j) ∧ Below w.heap.size w wr) (fun i _ => rs.length - (intOf i).toNat)
  case atStart => exact ⟨0, Nat.zero_le _, rfl, fun _ h => by omega, Below.refl _ _⟩
  case round =>
    obtain ⟨k, hk, rfl, hok, hb⟩ := hrel
    have Hok := Lib.hid hok
    have HB := Lib.hid hb
    have hsz := hb.size
    clear hok hb
    by_cases hlt : k < rs.length
    · obtain ⟨g, o, rfl, hc⟩ := H.out.at_ hlt
      have x0 := cell_of_below HB.out (hc k hlt).1
      have x1 := cell_of_below HB.out (hc k hlt).2
      have hk0 : (0 : Int) ≤ (k : Int) := by omega
      have hk1 : (k : Int) < (rs.length : Int) := by omega
      have Hr : Hid (okAt rs k → ∀ j, j < k + 1 → okAt rs j) := Lib.hid (ok_succ Hok.out)
      have Hno := Lib.hid (okAt_false (l := rs) (k := k))
      cases hs : sound (rs.getD k (0, 0)) with
      | false =>
        have Hs := Lib.hid hs
        have hne : ¬ IsSet rs := fun hh => Hno.out hs (chk_iff.2 hh k hlt)
        have Hne := Lib.hid hne
        clear hs hne hc
        generalize rs.getD k (0, 0) = r at *
        obtain ⟨x, y⟩ := r
        go_wp2
        have hblk := heap_alloc_new wr (Obj.cells #[Value.int IntKind.i64 x, Value.int IntKind.i64 y] 29)
        have hba : Below wr.heap.size wr (wr.alloc (Obj.cells #[Value.int IntKind.i64 x, Value.int IntKind.i64 y] 29)) := (Below.refl _ _).alloc (Nat.le_refl _) _
        generalize wr.alloc (Obj.cells #[Value.int IntKind.i64 x, Value.int IntKind.i64 y] 29) = W at *
        have y0 := fun n os => cell_grown (w := W) (a := ⟨wr.heap.size, 0, none⟩) (Array.getElem?_eq_some_iff.1 hblk).1 ((cell_of_row W _ 0 _ _ _ hblk).trans rfl) n os
        have y1 := fun n os => cell_grown (w := W) (a := ⟨wr.heap.size, 1, none⟩) (Array.getElem?_eq_some_iff.1 hblk).1 ((cell_of_row W _ 1 _ _ _ hblk).trans rfl) n os
        have Hba := Lib.hid (below_trans HB.out hba)
        clear hblk hba x0 x1
        refine wp_region_quiet_grown (by assumption) (by kernel_rfl) ?_
        repeat (go_big_quiet_step ((go_at_call 31; exact sound_grown Hs.out _ _ _)))
        refine wpQuiet_nil ?_
        intro _ hw'
        obtain ⟨⟨nq, osq⟩, hw''⟩ := hw'
        subst hw''
        have Hbg := Lib.hid (below_trans Hba.out (below_grow W nq osq))
        generalize grow (W.drewN nq) osq = wz at *
        go_wp2
        go_ret
        refine ⟨?_, Hbg.out⟩
        rw [chkE, if_neg Hne.out]
        rfl
      | true =>
        have Hs := Lib.hid hs
        have hS := sound_iff.1 hs
        rcases Nat.eq_zero_or_pos k with h0 | h0
        · have Hok1 : Hid (okAt rs k) := Lib.hid ⟨hS, fun h => by omega⟩
          have hd : decide ((0 : Int) < (k : Int)) = false := decide_eq_false (by omega)
          have hd' : decide (0 < k) = false := decide_eq_false (by omega)
          clear hs hS hc h0
          generalize rs.getD k (0, 0) = r at *
          obtain ⟨x, y⟩ := r
          go_wp2
          have hblk := heap_alloc_new wr (Obj.cells #[Value.int IntKind.i64 x, Value.int IntKind.i64 y] 29)
          have hba : Below wr.heap.size wr (wr.alloc (Obj.cells #[Value.int IntKind.i64 x, Value.int IntKind.i64 y] 29)) := (Below.refl _ _).alloc (Nat.le_refl _) _
          generalize wr.alloc (Obj.cells #[Value.int IntKind.i64 x, Value.int IntKind.i64 y] 29) = W at *
          have y0 := fun n os => cell_grown (w := W) (a := ⟨wr.heap.size, 0, none⟩) (Array.getElem?_eq_some_iff.1 hblk).1 ((cell_of_row W _ 0 _ _ _ hblk).trans rfl) n os
          have y1 := fun n os => cell_grown (w := W) (a := ⟨wr.heap.size, 1, none⟩) (Array.getElem?_eq_some_iff.1 hblk).1 ((cell_of_row W _ 1 _ _ _ hblk).trans rfl) n os
          have Hba := Lib.hid (below_trans HB.out hba)
          clear hblk hba x0 x1
          refine wp_region_quiet_grown (by assumption) (by kernel_rfl) ?_
          repeat (go_big_quiet_step ((go_at_call 31; exact sound_grown Hs.out _ _ _)))
          refine wpQuiet_nil ?_
          intro _ hw'
          obtain ⟨⟨nq, osq⟩, hw''⟩ := hw'
          subst hw''
          have Hbg := Lib.hid (below_trans Hba.out (below_grow W nq osq))
          generalize grow (W.drewN nq) osq = wz at *
          go_wp2
          refine ⟨⟨k + 1, by omega, by go_num, Hr.out Hok1.out, Hbg.out⟩, by simp [intOf]; omega⟩
        · obtain ⟨m, rfl⟩ : ∃ m, k = m + 1 := ⟨k - 1, by omega⟩
          have hd : decide ((0 : Int) < ((m + 1 : Nat) : Int)) = true := decide_eq_true (by omega)
          have hd' : decide (0 < m + 1) = true := by simp
          have hP := (Hok.out m (by omega)).1
          have Hok1 : Hid ((rs.getD m (0, 0)).2 + 2 ≤ (rs.getD (m + 1) (0, 0)).1 ↔ okAt rs (m + 1)) := Lib.hid ⟨fun h => ⟨hS, fun _ => h⟩, fun h => h.2 (by omega)⟩
          have z0 := cell_of_below HB.out (hc m (by omega)).1
          have z1 := cell_of_below HB.out (hc m (by omega)).2
          have Hno2 : Hid (¬ okAt rs (m + 1) → ¬ IsSet rs) := Lib.hid fun h hh => h (chk_iff.2 hh _ hlt)
          clear hs hS hc h0 Hno
          generalize rs.getD (m + 1) (0, 0) = r at *
          generalize rs.getD m (0, 0) = p at *
          obtain ⟨x, y⟩ := r
          obtain ⟨px, py⟩ := p
          obtain ⟨hp1, hp2, hp3⟩ := hP
          simp only at hp1 hp2 hp3
          have hw1 : IntKind.i64.wrap (py + 2) = py + 2 := IntWalk.i64_in _ (by omega)
          by_cases hle : py + 2 ≤ x
          · have hdd : decide (x < py + 2) = false := decide_eq_false (by omega)
            have Hle := Lib.hid hle
            clear hle
            go_wp2
            have hblk := heap_alloc_new wr (Obj.cells #[Value.int IntKind.i64 x, Value.int IntKind.i64 y] 29)
            have hba : Below wr.heap.size wr (wr.alloc (Obj.cells #[Value.int IntKind.i64 x, Value.int IntKind.i64 y] 29)) := (Below.refl _ _).alloc (Nat.le_refl _) _
            generalize wr.alloc (Obj.cells #[Value.int IntKind.i64 x, Value.int IntKind.i64 y] 29) = W at *
            have y0 := fun n os => cell_grown (w := W) (a := ⟨wr.heap.size, 0, none⟩) (Array.getElem?_eq_some_iff.1 hblk).1 ((cell_of_row W _ 0 _ _ _ hblk).trans rfl) n os
            have y1 := fun n os => cell_grown (w := W) (a := ⟨wr.heap.size, 1, none⟩) (Array.getElem?_eq_some_iff.1 hblk).1 ((cell_of_row W _ 1 _ _ _ hblk).trans rfl) n os
            have y2 := fun n os => cell_grown (w := W) (a := ⟨g, o + m * 2, none⟩) (World.block_lt_of_cell? _ _ (cell_of_below hba z0)) (cell_of_below hba z0) n os
            have y3 := fun n os => cell_grown (w := W) (a := ⟨g, o + m * 2 + 1, none⟩) (World.block_lt_of_cell? _ _ (cell_of_below hba z1)) (cell_of_below hba z1) n os
            have Hba := Lib.hid (below_trans HB.out hba)
            clear hblk hba x0 x1
            refine wp_region_quiet_grown (by assumption) (by kernel_rfl) ?_
            repeat (go_big_quiet_step ((go_at_call 31; exact sound_grown Hs.out _ _ _)))
            refine wpQuiet_nil ?_
            intro _ hw'
            obtain ⟨⟨nq, osq⟩, hw''⟩ := hw'
            subst hw''
            have Hbg := Lib.hid (below_trans Hba.out (below_grow W nq osq))
            generalize grow (W.drewN nq) osq = wz at *
            go_wp2
            refine ⟨⟨m + 1 + 1, by omega, by go_num, Hr.out (Hok1.out.1 Hle.out), Hbg.out⟩, by simp [intOf]; omega⟩
          · have hdd : decide (x < py + 2) = true := decide_eq_true (by omega)
            have Hle := Lib.hid hle
            clear hle
            go_wp2
            have hblk := heap_alloc_new wr (Obj.cells #[Value.int IntKind.i64 x, Value.int IntKind.i64 y] 29)
            have hba : Below wr.heap.size wr (wr.alloc (Obj.cells #[Value.int IntKind.i64 x, Value.int IntKind.i64 y] 29)) := (Below.refl _ _).alloc (Nat.le_refl _) _
            generalize wr.alloc (Obj.cells #[Value.int IntKind.i64 x, Value.int IntKind.i64 y] 29) = W at *
            have y0 := fun n os => cell_grown (w := W) (a := ⟨wr.heap.size, 0, none⟩) (Array.getElem?_eq_some_iff.1 hblk).1 ((cell_of_row W _ 0 _ _ _ hblk).trans rfl) n os
            have y1 := fun n os => cell_grown (w := W) (a := ⟨wr.heap.size, 1, none⟩) (Array.getElem?_eq_some_iff.1 hblk).1 ((cell_of_row W _ 1 _ _ _ hblk).trans rfl) n os
            have y2 := fun n os => cell_grown (w := W) (a := ⟨g, o + m * 2, none⟩) (World.block_lt_of_cell? _ _ (cell_of_below hba z0)) (cell_of_below hba z0) n os
            have y3 := fun n os => cell_grown (w := W) (a := ⟨g, o + m * 2 + 1, none⟩) (World.block_lt_of_cell? _ _ (cell_of_below hba z1)) (cell_of_below hba z1) n os
            have Hba := Lib.hid (below_trans HB.out hba)
            clear hblk hba x0 x1
            refine wp_region_quiet_grown (by assumption) (by kernel_rfl) ?_
            repeat (go_big_quiet_step ((go_at_call 31; exact sound_grown Hs.out _ _ _)))
            refine wpQuiet_nil ?_
            intro _ hw'
            obtain ⟨⟨nq, osq⟩, hw''⟩ := hw'
            subst hw''
            have Hbg := Lib.hid (below_trans Hba.out (below_grow W nq osq))
            generalize grow (W.drewN nq) osq = wz at *
            go_wp2
            go_ret
            refine ⟨?_, Hbg.out⟩
            rw [chkE, if_neg (Hno2.out fun h => absurd (Hok1.out.2 h) (by have := Hle.out; omega))]
            rfl
    · have hkk : k = rs.length := by omega
      have hset : IsSet rs := chk_iff.1 fun j hj => Hok.out j (by omega)
      have Hset := Lib.hid hset
      clear hset hkk
      go_wp2
      go_ret
      refine ⟨?_, HB.out⟩
      rw [chkE, if_pos Hset.out]
      rfl
end Go.Proofs.Ytlbfkcgejpboeaa.Rs
