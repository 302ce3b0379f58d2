/-
  slices.Clone, slices.Grow and slices.Concat at lists of ranges.
-/
import Derived.Test.YtlbfkcgejpboeaaRsH
namespace Go.Proofs.Ytlbfkcgejpboeaa.Rs
open Go.RowKit Go.Proofs Go.Sort
set_option linter.unusedVariables false
set_option linter.unusedSimpArgs false
set_option linter.unusedSectionVars false

set_option maxHeartbeats 400000 in
theorem clone_calls {w : World} {v : Value} {xs : List R} (h : RdR w v xs) (hl : xs.length ≤ 1000000) :
    Calls Try.prog 32 #[v] w fun e w' => ∃ v1, e = .returned v1 ∧ w'.ownsRow w.heap.size 29 2 v1 xs.length (cR xs) ∧ Below w.heap.size w w' := by
  have HR := Lib.hid h
  obtain ⟨A, c, rfl, h1, h2, hc⟩ := h
  rcases A with _ | ad
  · have h0 : xs = [] := by
      rcases hc with h | ⟨g, o, e, _⟩
      · exact h
      · cases e
    subst h0
    have hnil := Lib.run_eql_slice_nil (P := Try.prog) w 22 29 none 0 c 0 0 Try.underlying22
    go_enter Try.func32, Try.ntmps32
    go_wp2
    go_ret
    exact ⟨_, rfl, own_nil _ _ _ _, Below.refl _ _⟩
  · have hnil := Lib.run_eql_slice_nil (P := Try.prog) w 22 29 (some ad) xs.length c 0 0 Try.underlying22
    clear hc
    go_enter Try.func32, Try.ntmps32
    go_wp2_with (at_builtin; refine wpList_append_R w.heap.size rfl _ _ rfl _ _ [] xs rfl rfl ?o1 ?o2 ?o3 ?o4 ?_; (case o1 => exact World.ownsRow_lit w #[] 0 (Nat.le_refl _) (by simp [maxLen]) rfl); (case o2 => exact HR.out.below ((Below.refl _ _).alloc (Nat.le_refl _) _)); (case o3 => simp); (case o4 => simp; omega); intro v1 w1 ho hg; have HO := Lib.hid ho; have HG := Lib.hid hg; clear ho hg)
    go_ret
    refine ⟨_, rfl, by simpa using HO.out, ?_⟩
    refine ((Below.refl _ _).alloc (Nat.le_refl _) _).grown HG.out (by simp) (fun k hk => ?_)
    have hk' : some w.heap.size = some k := hk
    injection hk' with hk'
    omega

set_option maxRecDepth 20000 in
theorem grow_nil {w : World} {n : Nat} (hn : n ≤ 1000000) :
    Calls Try.prog 65 #[.slice none 0 0, .int .i64 n] w fun e w' => ∃ v1, e = .returned v1 ∧ w'.ownsRow w.heap.size 29 2 v1 0 [] ∧ Below w.heap.size w w' := by
  obtain ⟨i0, hi, hzz⟩ := Option.map_eq_some_iff.1 info29
  simp only [Prod.mk.injEq] at hzz
  obtain ⟨hz0, hz1, hz2⟩ := hzz
  by_cases h0 : n = 0
  · subst h0
    go_enter Try.func65, Try.ntmps65
    go_wp2
    go_ret
    exact ⟨_, rfl, own_nil _ _ _ _, Below.refl _ _⟩
  · have hd : decide ((n : Int) < 0) = false := by simp
    have hd1 : decide (0 < (n : Int)) = true := by simp; omega
    have hr := Lib.run_append_nil_zeros (P := Try.prog) w 22 3 22 29 i0 (.agg #[.int .i64 0, .int .i64 0]) .i64 .i64 Try.underlying22 Try.underlying3 hi hz0 n (by omega) (by omega) (by omega) (by rw [hz2]; omega)
    clear hi hz0 hz1 hz2
    go_enter Try.func65, Try.ntmps65
    have HR := Lib.hid hr
    clear hr
    go_wp2_with (at_builtin; refine Lib.wpList_append_run w rfl _ _ _ _ rfl _ _ rfl rfl _ _ HR.out ?_; clear HR)
    go_ret
    have hge := grownCap_ge w n 0 29
    have hle := grownCap_le_maxLen w n 0 29 (by simp only [maxLen]; omega)
    refine ⟨_, rfl, ⟨by simp, .inr ⟨w.heap.size, grownCap w n 0 29, _, rfl, Nat.le_refl _, heap_alloc_new w _, Nat.zero_le _, hle, ?_, by simp⟩⟩, ((Below.refl _ _).alloc (Nat.le_refl _) _).drew⟩
    simp [Builtin.zeroCells]
    omega

def total (ls : List (List R)) : Nat := (ls.map List.length).sum
theorem total_take (ls : List (List R)) (k : Nat) (hk : k < ls.length) : total (ls.take (k + 1)) = total (ls.take k) + (ls.getD k []).length := by
  have h2 : ls.getD k [] = ls[k] := by simp [List.getD_eq_getElem?_getD, List.getElem?_eq_getElem hk]
  unfold total
  rw [List.take_succ_eq_append_getElem hk, List.map_append, List.sum_append, h2]
  simp only [List.map_cons, List.map_nil, List.sum_cons, List.sum_nil, Nat.add_zero]
theorem total_le (ls : List (List R)) (k : Nat) : total (ls.take k) ≤ total ls := by
  have : total ls = total (ls.take k) + total (ls.drop k) := by
    unfold total
    rw [← List.sum_append, ← List.map_append, List.take_append_drop]
  omega
theorem flat_take (ls : List (List R)) (k : Nat) (hk : k < ls.length) : (ls.take (k + 1)).flatten = (ls.take k).flatten ++ ls.getD k [] := by
  have h2 : ls.getD k [] = ls[k] := by simp [List.getD_eq_getElem?_getD, List.getElem?_eq_getElem hk]
  rw [List.take_succ_eq_append_getElem hk, List.flatten_append, h2]
  simp only [List.flatten_cons, List.flatten_nil, List.append_nil]
theorem flat_len (ls : List (List R)) : ls.flatten.length = total ls := by simp [total, List.length_flatten]

set_option maxHeartbeats 1000000 in
set_option maxRecDepth 20000 in
theorem concat_calls {w : World} {a : Nat} {vs : List Value} {ls : List (List R)} (hR : (vs.length = ls.length ∧ ∀ i, i < vs.length → RdR w (vs.getD i (.slice none 0 0)) (ls.getD i []))) (hc : ∀ i, i < vs.length → w.cell? ⟨a, i, none⟩ = some (vs.getD i (.slice none 0 0)))
    (hn : vs.length ≤ 1000) (hl : total ls ≤ 1000000) :
    Calls Try.prog 52 #[.slice (some ⟨a, 0, none⟩) vs.length vs.length] w fun e w' => ∃ v1, e = .returned v1 ∧ w'.ownsRow w.heap.size 29 2 v1 ls.flatten.length (cR ls.flatten) ∧ Below w.heap.size w w' := by
  have hlen := hR.1
  have HR := Lib.hid hR
  have HC := Lib.hid hc
  have HL := Lib.hid hl
  have Hlen := Lib.hid hlen
  have hlen' : ls.length ≤ vs.length := by omega
  have hlen'' : vs.length ≤ ls.length := by omega
  clear hR hc hl hlen
  go_enter Try.func52, Try.ntmps52
  go_wp2
  go_loop [3, 11] (fun s i => ∃ k : Nat, k ≤ vs.length ∧ i = .int .i64 k ∧ s = .int .i64 (total (ls.take k))) (fun _ i => vs.length - (intOf i).toNat)
  case atStart => exact ⟨0, Nat.zero_le _, rfl, by simp [total]⟩
  case round =>
    obtain ⟨k, hk, rfl, rfl⟩ := hrel
    have Htl := Lib.hid (Nat.le_trans (total_le ls k) HL.out)
    by_cases hlt : k < vs.length
    · have hcell := HC.out k hlt
      obtain ⟨A, c, hv, h1, h2, h3⟩ := HR.out.2 k hlt
      have Htt := Lib.hid (total_take ls k (by omega))
      have Htl2 := Lib.hid (Nat.le_trans (total_le ls (k + 1)) HL.out)
      rw [hv] at hcell
      clear hv h1 h2 h3
      have hb : total (ls.take k) + (ls.getD k []).length ≤ 1000000 := by rw [← Htt.out]; exact Htl2.out
      have hb2 : (total (ls.take k) : Int) + ((ls.getD k []).length : Int) ≤ 1000000 := by omega
      have hb3 : decide ((total (ls.take k) : Int) + ((ls.getD k []).length : Int) < 0) = false := by simp; omega
      generalize (ls.getD k []).length = m at *
      generalize total (ls.take k) = q at *
      go_wp2
      refine ⟨⟨k + 1, by omega, by go_num, by rw [Htt.out]; go_num⟩, by simp [intOf]; omega⟩
    · have hkk : k = vs.length := by omega
      have htk : total (ls.take k) = total ls := by rw [List.take_of_length_le (by omega)]
      have hq := HL.out
      rw [htk]
      clear hkk htk Htl
      have Hfl := Lib.hid (flat_len ls)
      generalize htq : total ls = q at *
      clear htq HL
      go_wp2_with (go_at_call 65; (with_reducible refine (grow_nil hq).mono ?_); rintro e w1 ⟨v1, rfl, ho, hb⟩; have HO := Lib.hid ho; have HB := Lib.hid hb; clear ho hb; obtain ⟨A1, c1, he1⟩ := own_form HO.out; subst he1)
      go_loopw [6, 27] (fun v i wr => ∃ k : Nat, k ≤ vs.length ∧ i = .int .i64 k ∧ wr.ownsRow w.heap.size 29 2 v (ls.take k).flatten.length (cR (ls.take k).flatten) ∧ Below w.heap.size w wr) (fun _ i _ => vs.length - (intOf i).toNat)
      case atStart => exact ⟨0, Nat.zero_le _, rfl, by simpa [cR] using HO.out, HB.out⟩
      case round =>
        obtain ⟨k, hk, rfl, ho, hB⟩ := hrel
        have HO2 := Lib.hid ho
        have HB2 := Lib.hid hB
        obtain ⟨A2, c2, he2⟩ := own_form ho
        clear ho hB HO HB
        subst he2
        by_cases hlt : k < vs.length
        · have hcell := cell_of_below HB2.out (HC.out k hlt)
          have hRk := (HR.out.2 k hlt).below HB2.out
          have Hft := Lib.hid (flat_take ls k (by omega))
          have HRk := Lib.hid hRk
          have hle1 : (ls.take k).flatten.length + (ls.getD k []).length ≤ 1000000 := by
            have h1 := flat_len (ls.take (k + 1))
            have h2 := total_le ls (k + 1)
            have h3 := Hfl.out
            rw [flat_len] at h3
            rw [Hft.out, List.length_append] at h1
            omega
          have Hle1 := Lib.hid hle1
          clear hRk hle1
          obtain ⟨A3, c3, hv3, _⟩ := HRk.out
          rw [hv3] at hcell HRk
          clear hv3
          generalize (ls.getD k []) = m at *
          generalize (ls.take k).flatten = q2 at *
          go_wp2_with (at_builtin; refine wpList_append_R w.heap.size rfl _ _ rfl _ _ q2 m rfl rfl HO2.out HRk.out HB2.out.size (Nat.le_trans Hle1.out (by omega)) ?_; intro v5 w5 ho5 hg5; have HO5 := Lib.hid ho5; have HB5 := Lib.hid (below_of_grown HB2.out HO2.out hg5); clear ho5 hg5)
          refine ⟨⟨k + 1, by omega, by go_num, by rw [Hft.out]; exact HO5.out, HB5.out⟩, by simp [intOf]; omega⟩
        · have hkk : ls.take k = ls := List.take_of_length_le (by omega)
          have Hkk := Lib.hid hkk
          clear hkk
          go_wp2
          go_ret
          refine ⟨.slice A2 (List.take k ls).flatten.length c2, rfl, ?_, HB2.out⟩
          have h := HO2.out
          rw [Hkk.out] at h ⊢
          exact h


theorem concat2_calls {w : World} {a : Nat} {v0 v1 : Value} {ys xs : List R} (h0 : RdR w v0 ys) (h1 : RdR w v1 xs) (c0 : w.cell? ⟨a, 0, none⟩ = some v0) (c1 : w.cell? ⟨a, 1, none⟩ = some v1) (hl : ys.length + xs.length ≤ 1000000) :
    Calls Try.prog 52 #[.slice (some ⟨a, 0, none⟩) 2 2] w fun e w' => ∃ v, e = .returned v ∧ w'.ownsRow w.heap.size 29 2 v (ys ++ xs).length (cR (ys ++ xs)) ∧ Below w.heap.size w w' := by
  have h := concat_calls (w := w) (a := a) (vs := [v0, v1]) (ls := [ys, xs]) ⟨rfl, fun i hi => by
      match i, hi with
      | 0, _ => exact h0
      | 1, _ => exact h1⟩ (fun i hi => by
      match i, hi with
      | 0, _ => exact c0
      | 1, _ => exact c1) (by simp) (by simpa [total] using hl)
  simpa using h
end Go.Proofs.Ytlbfkcgejpboeaa.Rs
