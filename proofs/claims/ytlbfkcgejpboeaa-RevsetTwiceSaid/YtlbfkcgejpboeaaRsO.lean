/-
  The reference's Normalize and Both; awake; many at one, two and three lists.
-/
import Derived.Test.YtlbfkcgejpboeaaRsN
namespace Go.Proofs.Ytlbfkcgejpboeaa.Rs
open Go.RowKit Go.Proofs Go.Sort
set_option linter.unusedVariables false
set_option linter.unusedSimpArgs false
set_option linter.unusedSectionVars false

theorem counts_at (k : Nat) (hk : k < 3) (K : Int) (hK : K = (k : Int) + 1) (x y : Bool) (W : World) : Calls Try.prog 50 #[.bool x, .bool y, .int .i64 K] W fun e w' => e = .returned (.bool (op3 k x y)) ∧ W = w' := by
  rw [hK]; exact counts_calls x y k hk W
set_option maxHeartbeats 1000000 in
set_option maxRecDepth 20000 in
theorem rnormalize_yes {w : World} {v : Value} {rs : List R} (h : RdR w v rs) (hs : ∀ r ∈ rs, Sound r) (hl : rs.length ≤ 10000) :
    Calls Try.prog 23 #[v] w fun e w' => ∃ u s, e = .returned (.tuple #[u, .int .i64 0]) ∧ Made 0 rs [] s ∧ RdR w' u s ∧ RowKit.Below w.heap.size w w' := by
  have H := Lib.hid h
  have Hs := Lib.hid hs
  obtain ⟨a, c, rfl, h1, h2, _⟩ := h
  clear hs
  go_enter Try.func23, Try.ntmps23
  go_wp2
  go_loopw [8] (fun i wr => ∃ k : Nat, k ≤ rs.length ∧ i = .int .i64 k ∧ RowKit.Below w.heap.size w wr) (fun i _ => rs.length - (intOf i).toNat)
  case atStart => exact ⟨0, Nat.zero_le _, rfl, RowKit.Below.refl _ _⟩
  case round =>
    obtain ⟨k, hk, rfl, hb⟩ := hrel
    have HB := Lib.hid hb
    clear hb
    by_cases hlt : k < rs.length
    · obtain ⟨g, o, rfl, hc⟩ := H.out.at_ hlt
      have x0 := cell_of_below HB.out (hc k hlt).1
      have x1 := cell_of_below HB.out (hc k hlt).2
      have hS := sound_iff.2 (Hs.out _ (getD_mem hlt))
      have HS := Lib.hid hS
      clear hc hS
      generalize rs.getD k (0, 0) = r at *
      obtain ⟨x, y⟩ := r
      go_wp2_with (go_at_call 38; refine (rsound_is HS.out _).mono ?_; rintro e w' ⟨rfl, rfl⟩)
      exact ⟨⟨k + 1, by omega, by go_num, below_box (below_box HB.out _) _⟩, by simp [intOf]; omega⟩
    · have hset := set_calls (K := 1) (counts_at 0 (by omega) 1 rfl) (H.out.below HB.out) (RdR.nil wr) Hs.out (fun _ h => (List.not_mem_nil h).elim) hl (by simp)
      have HSet := Lib.hid hset
      clear hset
      go_wp2_with fail
      refine HSet.out.mono ?_
      rintro e w1 ⟨z, s, rfl, hm, hr, hb⟩
      have HM := Lib.hid hm
      have HR := Lib.hid hr
      have HB2 := Lib.hid (below_trans HB.out hb)
      clear hm hr hb
      go_wp2
      exact bodyPost_ret (v := .tuple #[z, .int .i64 0]) (by simp [results, Try.results23, go_sem]) rfl ⟨z, s, rfl, HM.out, HR.out, HB2.out⟩
set_option maxHeartbeats 1000000 in
set_option maxRecDepth 20000 in
theorem rnormalize_no {w : World} {v : Value} {rs : List R} (h : RdR w v rs) (hs : ¬ ∀ r ∈ rs, Sound r) :
    Calls Try.prog 23 #[v] w fun e w' => e = .returned (.tuple #[.slice none 0 0, .int .i64 120]) ∧ RowKit.Below w.heap.size w w' := by
  have H := Lib.hid h
  have Hs := Lib.hid hs
  obtain ⟨a, c, rfl, h1, h2, _⟩ := h
  clear hs
  go_enter Try.func23, Try.ntmps23
  go_wp2
  go_loopw [8] (fun i wr => ∃ k : Nat, k ≤ rs.length ∧ i = .int .i64 k ∧ (∀ j, j < k → Sound (rs.getD j (0, 0))) ∧ RowKit.Below w.heap.size w wr) (fun i _ => rs.length - (intOf i).toNat)
  case atStart => exact ⟨0, Nat.zero_le _, rfl, fun _ h => by omega, RowKit.Below.refl _ _⟩
  case round =>
    obtain ⟨k, hk, rfl, hok, hb⟩ := hrel
    have HB := Lib.hid hb
    have Hok := Lib.hid hok
    clear hb hok
    by_cases hlt : k < rs.length
    · obtain ⟨g, o, rfl, hc⟩ := H.out.at_ hlt
      have x0 := cell_of_below HB.out (hc k hlt).1
      have x1 := cell_of_below HB.out (hc k hlt).2
      have Hn : Hid (Sound (rs.getD k (0, 0)) → ∀ j, j < k + 1 → Sound (rs.getD j (0, 0))) := Lib.hid fun h j hj => by
        rcases Nat.lt_or_ge j k with e | e
        · exact Hok.out j e
        · obtain rfl : k = j := by omega
          exact h
      clear hc
      generalize rs.getD k (0, 0) = r at *
      obtain ⟨x, y⟩ := r
      cases hS : sound (x, y) with
      | true =>
        have HS := Lib.hid hS
        have Hn2 := Lib.hid (Hn.out (sound_iff.1 hS))
        clear hS
        go_wp2_with (go_at_call 38; refine (rsound_is HS.out _).mono ?_; rintro e w' ⟨rfl, rfl⟩)
        exact ⟨⟨k + 1, by omega, by go_num, Hn2.out, below_box (below_box HB.out _) _⟩, by simp [intOf]; omega⟩
      | false =>
        have HS := Lib.hid hS
        clear hS
        go_wp2_with (go_at_call 38; refine (rsound_is HS.out _).mono ?_; rintro e w' ⟨rfl, rfl⟩)
        exact bodyPost_ret (v := .tuple #[.slice none 0 0, .int .i64 120]) (by simp [results, Try.results23, go_sem]) rfl ⟨rfl, below_box (below_box HB.out _) _⟩
    · exfalso
      refine Hs.out fun r hr => ?_
      obtain ⟨i, hi, rfl⟩ := List.mem_iff_getElem.1 hr
      have := Hok.out i (by omega)
      rwa [List.getD_eq_getElem?_getD, List.getElem?_eq_getElem hi] at this

set_option maxHeartbeats 1000000 in
theorem both_yes {w : World} {v u : Value} {a b : List R} {k : Nat} {K : Int} (hk : k < 3) (hK : K = (k : Int) + 1) (h : RdR w v a) (h2 : RdR w u b) (hs : IsSet a) (hs2 : IsSet b) (hl : a.length ≤ 10000) (hl2 : b.length ≤ 10000) :
    Calls Try.prog 28 #[v, u, .int .i64 K] w fun e w' => ∃ z s, e = .returned (.tuple #[z, .int .i64 0]) ∧ Made k a b s ∧ RdR w' z s ∧ RowKit.Below w.heap.size w w' := by
  have H := Lib.hid h
  have H2 := Lib.hid h2
  have Hs := Lib.hid hs
  have Hs2 := Lib.hid hs2
  have HG := Lib.hid (counts_at k hk K hK)
  clear h h2 hs hs2 hK hk
  go_enter Try.func28, Try.ntmps28
  go_wp2_with fail
  refine (rcheck_is H.out (chkE_yes Hs.out)).mono ?_
  rintro e w1 ⟨rfl, hb⟩
  have HB1 := Lib.hid hb
  clear hb
  go_wp2_with fail
  refine (rcheck_is (H2.out.below HB1.out) (chkE_yes Hs2.out)).mono ?_
  rintro e w2 ⟨rfl, hb⟩
  have HB2 := Lib.hid (below_trans HB1.out hb)
  clear hb HB1
  go_wp2_with fail
  refine (set_calls (k := k) HG.out (H.out.below HB2.out) (H2.out.below HB2.out) Hs.out.1 Hs2.out.1 hl hl2).mono ?_
  rintro e w3 ⟨z, s, rfl, hm, hr, hb⟩
  have HM := Lib.hid hm
  have HR := Lib.hid hr
  have HB3 := Lib.hid (below_trans HB2.out hb)
  clear hm hr hb
  go_wp2
  exact bodyPost_ret (v := .tuple #[z, .int .i64 0]) (by simp [results, Try.results28, go_sem]) rfl ⟨z, s, rfl, HM.out, HR.out, HB3.out⟩
set_option maxHeartbeats 1000000 in
theorem both_no {w : World} {v u : Value} {a b : List R} {K : Int} (h : RdR w v a) (h2 : RdR w u b) (hs : ¬ (IsSet a ∧ IsSet b)) :
    Calls Try.prog 28 #[v, u, .int .i64 K] w fun e w' => e = .returned (.tuple #[.slice none 0 0, .int .i64 120]) ∧ RowKit.Below w.heap.size w w' := by
  have H := Lib.hid h
  have H2 := Lib.hid h2
  by_cases ha : IsSet a
  · have Ha := Lib.hid ha
    have Hb := Lib.hid (fun hb => hs ⟨ha, hb⟩)
    clear h h2 hs ha
    go_enter Try.func28, Try.ntmps28
    go_wp2_with fail
    refine (rcheck_is H.out (chkE_yes Ha.out)).mono ?_
    rintro e w1 ⟨rfl, hb⟩
    have HB1 := Lib.hid hb
    clear hb
    go_wp2_with fail
    refine (rcheck_is (H2.out.below HB1.out) (chkE_no Hb.out)).mono ?_
    rintro e w2 ⟨rfl, hb⟩
    have HB2 := Lib.hid (below_trans HB1.out hb)
    clear hb HB1
    go_wp2
    exact bodyPost_ret (v := .tuple #[.slice none 0 0, .int .i64 120]) (by simp [results, Try.results28, go_sem]) rfl ⟨rfl, HB2.out⟩
  · have Ha := Lib.hid ha
    clear h h2 hs ha
    go_enter Try.func28, Try.ntmps28
    go_wp2_with fail
    refine (rcheck_is H.out (chkE_no Ha.out)).mono ?_
    rintro e w1 ⟨rfl, hb⟩
    have HB1 := Lib.hid hb
    clear hb
    go_wp2
    exact bodyPost_ret (v := .tuple #[.slice none 0 0, .int .i64 120]) (by simp [results, Try.results28, go_sem]) rfl ⟨rfl, HB1.out⟩

theorem RdR.cells {w : World} {g : Nat} {rs : List R} (h : w.heap[g]? = some (.cells (cR rs).toArray 29 (0, 0))) (hl : rs.length ≤ 100) : RdR w (.slice (some ⟨g, 0, none⟩) rs.length rs.length) rs :=
  ⟨_, _, rfl, Nat.le_refl _, by omega, .inr ⟨g, 0, rfl, fun i hi => by
    have hg := cR_get hi
    exact ⟨(cell_of_row w g (0 + i * 2) _ _ _ h).trans (by rw [Nat.zero_add, List.getElem?_toArray]; exact hg.1), (cell_of_row w g (0 + i * 2 + 1) _ _ _ h).trans (by rw [Nat.zero_add, List.getElem?_toArray]; exact hg.2)⟩⟩⟩
theorem norm_awake {s : List R} (h : Norm [(5, 7), (1, 2), (3, 3), (6, 9)] s) : s = [(1, 3), (5, 9)] := by
  refine IsSet.ext h.1 (by decide) fun n => ?_
  rw [h.2.1]
  unfold mem
  simp
  omega
set_option maxHeartbeats 1000000 in
theorem awake_calls (w : World) : Calls Try.prog 12 #[] w fun e w' => e = .returned (.bool true) ∧ RowKit.Below w.heap.size w w' := by
  go_enter Try.func12, Try.ntmps12
  go_wp2_with fail
  have hA : RowKit.Below w.heap.size w (w.alloc (Obj.cells (cR [(5, 7), (1, 2), (3, 3), (6, 9)]).toArray 29)) := (RowKit.Below.refl _ _).alloc (Nat.le_refl _) _
  have hR : RdR (w.alloc (Obj.cells (cR [(5, 7), (1, 2), (3, 3), (6, 9)]).toArray 29)) (.slice (some ⟨w.heap.size, 0, none⟩) 4 4) [(5, 7), (1, 2), (3, 3), (6, 9)] := RdR.cells (heap_alloc_new w _) (by simp)
  refine (normalize_yes hR (by decide) (by simp)).mono ?_
  rintro e w1 ⟨u, s, rfl, hn, hr, hb⟩
  have hs := norm_awake hn
  subst hs
  have HR := Lib.hid hr
  have HB := Lib.hid (below_trans hA hb)
  clear hA hR hn hr hb
  go_wp2_with fail
  have hA2 : RowKit.Below w1.heap.size w1 (w1.alloc (Obj.cells (cR [(1, 3), (5, 9)]).toArray 29)) := (RowKit.Below.refl _ _).alloc (Nat.le_refl _) _
  have hR2 : RdR (w1.alloc (Obj.cells (cR [(1, 3), (5, 9)]).toArray 29)) (.slice (some ⟨w1.heap.size, 0, none⟩) 2 2) [(1, 3), (5, 9)] := RdR.cells (heap_alloc_new w1 _) (by simp)
  refine (same_calls (HR.out.below hA2) hR2).mono ?_
  rintro e w2 ⟨rfl, hb⟩
  have HB2 := Lib.hid (below_trans (below_trans HB.out hA2) hb)
  clear hA2 hR2 hb
  go_wp2
  go_ret
  exact ⟨rfl, HB2.out⟩

theorem many1 {w : World} {g : Nat} {v : Value} {rs : List R} (h : RdR w v rs) (c0 : w.cell? ⟨g, 0, none⟩ = some v) :
    Calls Try.prog 11 #[.slice (some ⟨g, 0, none⟩) 1 1] w fun e w' => e = .returned (.bool (decide (40 < rs.length))) ∧ w = w' := by
  have := many_calls (w := w) (g := g) (vs := [v]) (ls := [rs]) rfl (fun i hi => by
      have hi' : i < 1 := hi
      match i, hi' with
      | 0, _ => exact c0) (fun i hi => by
      have hi' : i < 1 := hi
      match i, hi' with
      | 0, _ => exact h) (by simp)
  simpa using this
theorem many2 {w : World} {g : Nat} {v u : Value} {rs qs : List R} (h : RdR w v rs) (h2 : RdR w u qs) (c0 : w.cell? ⟨g, 0, none⟩ = some v) (c1 : w.cell? ⟨g, 1, none⟩ = some u) :
    Calls Try.prog 11 #[.slice (some ⟨g, 0, none⟩) 2 2] w fun e w' => e = .returned (.bool (decide (40 < rs.length) || decide (40 < qs.length))) ∧ w = w' := by
  have := many_calls (w := w) (g := g) (vs := [v, u]) (ls := [rs, qs]) rfl (fun i hi => by
      have hi' : i < 2 := hi
      match i, hi' with
      | 0, _ => exact c0
      | 1, _ => exact c1) (fun i hi => by
      have hi' : i < 2 := hi
      match i, hi' with
      | 0, _ => exact h
      | 1, _ => exact h2) (by simp)
  simpa using this
theorem many3 {w : World} {g : Nat} {v u x : Value} {rs qs ts : List R} (h : RdR w v rs) (h2 : RdR w u qs) (h3 : RdR w x ts) (c0 : w.cell? ⟨g, 0, none⟩ = some v) (c1 : w.cell? ⟨g, 1, none⟩ = some u) (c2 : w.cell? ⟨g, 2, none⟩ = some x) :
    Calls Try.prog 11 #[.slice (some ⟨g, 0, none⟩) 3 3] w fun e w' => e = .returned (.bool (decide (40 < rs.length) || (decide (40 < qs.length) || decide (40 < ts.length)))) ∧ w = w' := by
  have := many_calls (w := w) (g := g) (vs := [v, u, x]) (ls := [rs, qs, ts]) rfl (fun i hi => by
      have hi' : i < 3 := hi
      match i, hi' with
      | 0, _ => exact c0
      | 1, _ => exact c1
      | 2, _ => exact c2) (fun i hi => by
      have hi' : i < 3 := hi
      match i, hi' with
      | 0, _ => exact h
      | 1, _ => exact h2
      | 2, _ => exact h3) (by simp)
  simpa using this
end Go.Proofs.Ytlbfkcgejpboeaa.Rs
