/-
  The device: Flip, where it is refused.
-/
import Derived.Test.YtjcjgeneehhgbaaDevL
namespace Go.Proofs.Ytjcjgeneehhgbaa.Dev
open Go.RowKit Go.Proofs
set_option linter.unusedVariables false
set_option linter.unusedSectionVars false
set_option linter.unusedSimpArgs false
variable [Bs]

set_option maxHeartbeats 4000000 in
set_option maxRecDepth 100000 in
theorem flip_bad {w : World} {d : Nat} {st : DS} {S : Nat → Prop} (h : DevI w d st S) (k : ByteArray) (off bit : Int) (hk : k.size ≤ 9223372036854775807) (hl : ((st.now.get k).getD []).length ≤ 4194304) (hr : (st.flip k off bit).2 ≠ 0) :
    Calls Try.prog 28 #[.pointer (some ⟨d, 0, none⟩), .string k, .int .i64 off, .int .i64 bit] w fun e w' => e = .returned (.int .i64 (st.flip k off bit).2) ∧ Below w.heap.size w w' := by
  obtain ⟨rd, rn, pv, cells, hW⟩ := h
  obtain ⟨v0, hv0, hlk0⟩ := lookupI hW.now k
  have hlk := (hlk0 w rfl).1
  have c1 := hW.blk.c1
  have HW := Lib.hid hW
  clear hlk0 hW
  cases hv : valid k with
  | false =>
    have e : (st.flip k off bit).2 = 300 := by simp [DS.flip, hv]
    rw [e]
    clear e hr
    have Hv := Lib.hid hv
    clear hv
    generalize (st.now.get k).isSome = sm at *
    obtain ⟨A0, c0, rfl, _⟩ := hv0
    go_enter Try.func28, Try.ntmps28
    go_wp2_with fail
    refine (valid_calls k w hk).mono ?_
    rw [Hv.out]
    rintro e w1 ⟨rfl, hb⟩
    have Hb := Lib.hid hb
    clear hb
    go_wp2
    go_ret
    exact ⟨rfl, Hb.out⟩
  | true =>
    have Hv := Lib.hid hv
    cases hg : st.now.get k with
    | none =>
      have e : (st.flip k off bit).2 = 301 := by simp [DS.flip, hv, hg]
      rw [e]
      rw [hg] at hlk hv0
      clear e hr hv hg
      obtain ⟨A0, c0, rfl, _⟩ := hv0
      go_enter Try.func28, Try.ntmps28
      go_wp2_with fail
      refine (valid_calls k w hk).mono ?_
      rw [Hv.out]
      rintro e w1 ⟨rfl, hb⟩
      have Hb := Lib.hid hb
      clear hb
      go_wp2
      go_ret
      exact ⟨rfl, Hb.out⟩
    | some b =>
      have hcond : 0 < st.pend.length ∨ off < 0 ∨ (b.length : Int) ≤ off ∨ bit < 0 ∨ 7 < bit := by
        by_cases hc : 0 < st.pend.length ∨ off < 0 ∨ (b.length : Int) ≤ off ∨ bit < 0 ∨ 7 < bit
        · exact hc
        · exact absurd (by simp only [DS.flip, hv, hg, hc, if_false]; rfl) hr
      have e : (st.flip k off bit).2 = 304 := by simp only [DS.flip, hv, hg, if_pos hcond]; rfl
      rw [e]
      rw [hg] at hlk hv0
      clear e hr hv hg
      obtain ⟨A0, c0, rfl, _⟩ := hv0
      obtain ⟨A, c, rfl⟩ : ∃ A c, pv = .slice A st.pend.length c := by
        rcases HW.out.own.2 with ⟨rfl, e⟩ | ⟨g, cap, cur, rfl, _⟩
        · exact ⟨none, 0, by rw [e]⟩
        · exact ⟨_, _, rfl⟩
      have hfin : ∀ w1, Below w.heap.size w w1 → w1.cell? ⟨d, 2, none⟩ = some (.slice A st.pend.length c) := fun w1 hb => cell_of_below hb HW.out.blk.c2
      have Hfin := Lib.hid hfin
      clear hfin HW
      generalize st.pend.length = n at *
      simp only [Option.getD_some] at hl hlk
      have hdn : decide ((0 : Int) < (n : Int)) = decide (0 < n) := by simp
      by_cases k1 : 0 < n
      · clear hcond hdn
        go_enter Try.func28, Try.ntmps28
        go_wp2_with fail
        refine (valid_calls k w hk).mono ?_
        rw [Hv.out]
        rintro e w1 ⟨rfl, hb⟩
        have c2 := Hfin.out w1 hb
        have Hb := Lib.hid hb
        clear hb
        go_wp2
        go_ret
        exact ⟨rfl, Hb.out⟩
      have hn0 : n = 0 := by omega
      subst hn0
      replace hcond := hcond.resolve_left k1
      clear k1 hdn
      by_cases k2 : off < 0
      · clear hcond
        have d2 : decide (off < 0) = true := by simpa using k2
        go_enter Try.func28, Try.ntmps28
        go_wp2_with fail
        refine (valid_calls k w hk).mono ?_
        rw [Hv.out]
        rintro e w1 ⟨rfl, hb⟩
        have c2 := Hfin.out w1 hb
        have Hb := Lib.hid hb
        clear hb
        go_wp2
        go_ret
        exact ⟨rfl, Hb.out⟩
      replace hcond := hcond.resolve_left k2
      have d2 : decide (off < 0) = false := by simpa using k2
      by_cases k3 : (b.length : Int) ≤ off
      · clear hcond
        have d3 : decide ((b.length : Int) ≤ off) = true := by simpa using k3
        go_enter Try.func28, Try.ntmps28
        go_wp2_with fail
        refine (valid_calls k w hk).mono ?_
        rw [Hv.out]
        rintro e w1 ⟨rfl, hb⟩
        have c2 := Hfin.out w1 hb
        have Hb := Lib.hid hb
        clear hb
        go_wp2
        go_ret
        exact ⟨rfl, Hb.out⟩
      replace hcond := hcond.resolve_left k3
      have d3 : decide ((b.length : Int) ≤ off) = false := by simpa using k3
      by_cases k4 : bit < 0
      · clear hcond
        have d4 : decide (bit < 0) = true := by simpa using k4
        go_enter Try.func28, Try.ntmps28
        go_wp2_with fail
        refine (valid_calls k w hk).mono ?_
        rw [Hv.out]
        rintro e w1 ⟨rfl, hb⟩
        have c2 := Hfin.out w1 hb
        have Hb := Lib.hid hb
        clear hb
        go_wp2
        go_ret
        exact ⟨rfl, Hb.out⟩
      replace hcond := hcond.resolve_left k4
      have d4 : decide (bit < 0) = false := by simpa using k4
      have d5 : decide (7 < bit) = true := by simpa using hcond
      go_enter Try.func28, Try.ntmps28
      go_wp2_with fail
      refine (valid_calls k w hk).mono ?_
      rw [Hv.out]
      rintro e w1 ⟨rfl, hb⟩
      have c2 := Hfin.out w1 hb
      have Hb := Lib.hid hb
      clear hb
      go_wp2
      go_ret
      exact ⟨rfl, Hb.out⟩
theorem flip_bad_N {w0 w : World} {d : Nat} {st : DS} (h : DevN w0 w d st) {k : ByteArray} {off bit r : Int} (he : (st.flip k off bit).2 = r) (hr : r ≠ 0) (hk : k.size ≤ 9223372036854775807) (hl : ((st.now.get k).getD []).length ≤ 4194304) :
    Calls Try.prog 28 #[.pointer (some ⟨d, 0, none⟩), .string k, .int .i64 off, .int .i64 bit] w fun e w' => e = .returned (.int .i64 r) ∧ DevN w0 w' d st ∧ U8 w w' := by
  have h' := h
  obtain ⟨S, h1, _⟩ := h'
  refine (flip_bad h1 k off bit hk hl (by rw [he]; exact hr)).mono ?_
  rintro e w' ⟨rfl, hb⟩
  rw [he]
  exact ⟨rfl, h.below hb⟩
end Go.Proofs.Ytjcjgeneehhgbaa.Dev
