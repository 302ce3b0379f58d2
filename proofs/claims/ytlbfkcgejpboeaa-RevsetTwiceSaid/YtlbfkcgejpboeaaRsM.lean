/-
  Union, Meet and Minus of two lists of ranges; or, and of two sets.
-/
import Derived.Test.YtlbfkcgejpboeaaRsL
namespace Go.Proofs.Ytlbfkcgejpboeaa.Rs
open Go.RowKit Go.Proofs Go.Sort
set_option linter.unusedVariables false
set_option linter.unusedSimpArgs false
set_option linter.unusedSectionVars false

theorem chkE_le (l : List R) : chkE l = 0 ∨ chkE l = 120 := by unfold chkE; split <;> simp
set_option maxHeartbeats 1000000 in
set_option maxRecDepth 100000 in
theorem walk_no {w : World} {v u : Value} {a b : List R} {f : Value} (h : RdR w v a) (h2 : RdR w u b) (hs : ¬ (IsSet a ∧ IsSet b)) :
    Calls Try.prog 40 #[v, u, f] w fun e w' => e = .returned (.tuple #[.slice none 0 0, .int .i64 120]) ∧ RowKit.Below w.heap.size w w' := by
  have H := Lib.hid h
  have H2 := Lib.hid h2
  have hor : (if chkE a = 0 then chkE b else chkE a) = 120 := by
    unfold chkE
    by_cases ha : IsSet a <;> by_cases hb : IsSet b <;> simp [ha, hb]
    exact hs ⟨ha, hb⟩
  have Hor := Lib.hid hor
  obtain ⟨ea, hea⟩ : ∃ ea, chkE a = ea := ⟨_, rfl⟩
  obtain ⟨eb, heb⟩ : ∃ eb, chkE b = eb := ⟨_, rfl⟩
  rw [hea, heb] at Hor
  have Hea := Lib.hid hea
  have Heb := Lib.hid heb
  obtain ⟨aa, ac, rfl, a1, a2, _⟩ := h
  obtain ⟨ba, bc, rfl, b1, b2, _⟩ := h2
  clear hs hor hea heb
  go_enter Try.func40, Try.ntmps40
  go_wp2_with fail
  refine (check_is H.out Hea.out).mono ?_
  rintro e w1 ⟨rfl, hw1⟩
  have HB1 := Lib.hid hw1
  clear hw1
  go_wp2_with fail
  refine (check_is (H2.out.below HB1.out) Heb.out).mono ?_
  rintro e w2 ⟨rfl, hw2⟩
  have HB2 := Lib.hid (below_trans HB1.out hw2)
  clear hw2 HB1
  go_wp2_with fail
  refine (or_calls (e := ea) (f := eb) (by go_simp) (by go_simp)).mono ?_
  rintro e w3 ⟨rfl, rfl⟩
  rw [Hor.out]
  go_wp2
  exact bodyPost_ret (v := .tuple #[.slice none 0 0, .int .i64 120]) (by simp [results, Try.results40, go_sem]) rfl ⟨rfl, below_box HB2.out _⟩

set_option maxHeartbeats 1000000 in
theorem union_yes {w : World} {v u : Value} {a b : List R} (h : RdR w v a) (h2 : RdR w u b) (hs : IsSet a) (hs2 : IsSet b) (hl : a.length ≤ 10000) (hl2 : b.length ≤ 10000) :
    Calls Try.prog 27 #[v, u] w fun e w' => ∃ z s, e = .returned (.tuple #[z, .int .i64 0]) ∧ Made 0 a b s ∧ RdR w' z s ∧ RowKit.Below w.heap.size w w' := by
  have eg : ∀ args w, (callFunc 41 args).run Try.prog w = .ok (.enter 41 args) w := enters_of Try.func41 (by kernel_rfl) rfl
  have HC := Lib.hid (walk_yes (k := 0) eg union1_calls h h2 hs hs2 hl hl2)
  clear h h2 eg
  go_enter Try.func27, Try.ntmps27
  go_wp2_with fail
  refine HC.out.mono ?_
  rintro e w1 ⟨z, s, rfl, hm, hr, hb⟩
  have HM := Lib.hid hm
  have HR := Lib.hid hr
  have HB := Lib.hid hb
  clear hm hr hb
  go_wp2
  exact bodyPost_ret (v := .tuple #[z, .int .i64 0]) (by simp [results, Try.results27, go_sem]) rfl ⟨z, s, rfl, HM.out, HR.out, HB.out⟩
set_option maxHeartbeats 1000000 in
theorem union_no {w : World} {v u : Value} {a b : List R} (h : RdR w v a) (h2 : RdR w u b) (hs : ¬ (IsSet a ∧ IsSet b)) :
    Calls Try.prog 27 #[v, u] w fun e w' => e = .returned (.tuple #[.slice none 0 0, .int .i64 120]) ∧ RowKit.Below w.heap.size w w' := by
  have HC := Lib.hid (walk_no (f := .func (.func 41) #[] #[]) h h2 hs)
  clear h h2 hs
  go_enter Try.func27, Try.ntmps27
  go_wp2_with fail
  refine HC.out.mono ?_
  rintro e w1 ⟨rfl, hb⟩
  have HB := Lib.hid hb
  clear hb
  go_wp2
  exact bodyPost_ret (v := .tuple #[.slice none 0 0, .int .i64 120]) (by simp [results, Try.results27, go_sem]) rfl ⟨rfl, HB.out⟩

set_option maxHeartbeats 1000000 in
theorem meet_yes {w : World} {v u : Value} {a b : List R} (h : RdR w v a) (h2 : RdR w u b) (hs : IsSet a) (hs2 : IsSet b) (hl : a.length ≤ 10000) (hl2 : b.length ≤ 10000) :
    Calls Try.prog 29 #[v, u] w fun e w' => ∃ z s, e = .returned (.tuple #[z, .int .i64 0]) ∧ Made 1 a b s ∧ RdR w' z s ∧ RowKit.Below w.heap.size w w' := by
  have eg : ∀ args w, (callFunc 42 args).run Try.prog w = .ok (.enter 42 args) w := enters_of Try.func42 (by kernel_rfl) rfl
  have HC := Lib.hid (walk_yes (k := 1) eg meet1_calls h h2 hs hs2 hl hl2)
  clear h h2 eg
  go_enter Try.func29, Try.ntmps29
  go_wp2_with fail
  refine HC.out.mono ?_
  rintro e w1 ⟨z, s, rfl, hm, hr, hb⟩
  have HM := Lib.hid hm
  have HR := Lib.hid hr
  have HB := Lib.hid hb
  clear hm hr hb
  go_wp2
  exact bodyPost_ret (v := .tuple #[z, .int .i64 0]) (by simp [results, Try.results29, go_sem]) rfl ⟨z, s, rfl, HM.out, HR.out, HB.out⟩
set_option maxHeartbeats 1000000 in
theorem meet_no {w : World} {v u : Value} {a b : List R} (h : RdR w v a) (h2 : RdR w u b) (hs : ¬ (IsSet a ∧ IsSet b)) :
    Calls Try.prog 29 #[v, u] w fun e w' => e = .returned (.tuple #[.slice none 0 0, .int .i64 120]) ∧ RowKit.Below w.heap.size w w' := by
  have HC := Lib.hid (walk_no (f := .func (.func 42) #[] #[]) h h2 hs)
  clear h h2 hs
  go_enter Try.func29, Try.ntmps29
  go_wp2_with fail
  refine HC.out.mono ?_
  rintro e w1 ⟨rfl, hb⟩
  have HB := Lib.hid hb
  clear hb
  go_wp2
  exact bodyPost_ret (v := .tuple #[.slice none 0 0, .int .i64 120]) (by simp [results, Try.results29, go_sem]) rfl ⟨rfl, HB.out⟩

set_option maxHeartbeats 1000000 in
theorem minus_yes {w : World} {v u : Value} {a b : List R} (h : RdR w v a) (h2 : RdR w u b) (hs : IsSet a) (hs2 : IsSet b) (hl : a.length ≤ 10000) (hl2 : b.length ≤ 10000) :
    Calls Try.prog 30 #[v, u] w fun e w' => ∃ z s, e = .returned (.tuple #[z, .int .i64 0]) ∧ Made 2 a b s ∧ RdR w' z s ∧ RowKit.Below w.heap.size w w' := by
  have eg : ∀ args w, (callFunc 43 args).run Try.prog w = .ok (.enter 43 args) w := enters_of Try.func43 (by kernel_rfl) rfl
  have HC := Lib.hid (walk_yes (k := 2) eg minus1_calls h h2 hs hs2 hl hl2)
  clear h h2 eg
  go_enter Try.func30, Try.ntmps30
  go_wp2_with fail
  refine HC.out.mono ?_
  rintro e w1 ⟨z, s, rfl, hm, hr, hb⟩
  have HM := Lib.hid hm
  have HR := Lib.hid hr
  have HB := Lib.hid hb
  clear hm hr hb
  go_wp2
  exact bodyPost_ret (v := .tuple #[z, .int .i64 0]) (by simp [results, Try.results30, go_sem]) rfl ⟨z, s, rfl, HM.out, HR.out, HB.out⟩
set_option maxHeartbeats 1000000 in
theorem minus_no {w : World} {v u : Value} {a b : List R} (h : RdR w v a) (h2 : RdR w u b) (hs : ¬ (IsSet a ∧ IsSet b)) :
    Calls Try.prog 30 #[v, u] w fun e w' => e = .returned (.tuple #[.slice none 0 0, .int .i64 120]) ∧ RowKit.Below w.heap.size w w' := by
  have HC := Lib.hid (walk_no (f := .func (.func 43) #[] #[]) h h2 hs)
  clear h h2 hs
  go_enter Try.func30, Try.ntmps30
  go_wp2_with fail
  refine HC.out.mono ?_
  rintro e w1 ⟨rfl, hb⟩
  have HB := Lib.hid hb
  clear hb
  go_wp2
  exact bodyPost_ret (v := .tuple #[.slice none 0 0, .int .i64 120]) (by simp [results, Try.results30, go_sem]) rfl ⟨rfl, HB.out⟩

set_option maxHeartbeats 1000000 in
theorem lor_yes {w : World} {v u : Value} {a b : List R} (h : RdR w v a) (h2 : RdR w u b) (hs : IsSet a) (hs2 : IsSet b) (hl : a.length ≤ 10000) (hl2 : b.length ≤ 10000) :
    Calls Try.prog 25 #[v, u] w fun e w' => ∃ z s, e = .returned z ∧ Made 0 a b s ∧ RdR w' z s ∧ RowKit.Below w.heap.size w w' := by
  have HC := Lib.hid (union_yes h h2 hs hs2 hl hl2)
  clear h h2
  go_enter Try.func25, Try.ntmps25
  go_wp2_with fail
  refine HC.out.mono ?_
  rintro e w1 ⟨z, s, rfl, hm, hr, hb⟩
  have HM := Lib.hid hm
  have HR := Lib.hid hr
  have HB := Lib.hid hb
  clear hm hr hb
  go_wp2
  go_ret
  exact ⟨z, s, rfl, HM.out, HR.out, HB.out⟩

set_option maxHeartbeats 1000000 in
theorem land_yes {w : World} {v u : Value} {a b : List R} (h : RdR w v a) (h2 : RdR w u b) (hs : IsSet a) (hs2 : IsSet b) (hl : a.length ≤ 10000) (hl2 : b.length ≤ 10000) :
    Calls Try.prog 26 #[v, u] w fun e w' => ∃ z s, e = .returned z ∧ Made 1 a b s ∧ RdR w' z s ∧ RowKit.Below w.heap.size w w' := by
  have HC := Lib.hid (meet_yes h h2 hs hs2 hl hl2)
  clear h h2
  go_enter Try.func26, Try.ntmps26
  go_wp2_with fail
  refine HC.out.mono ?_
  rintro e w1 ⟨z, s, rfl, hm, hr, hb⟩
  have HM := Lib.hid hm
  have HR := Lib.hid hr
  have HB := Lib.hid hb
  clear hm hr hb
  go_wp2
  go_ret
  exact ⟨z, s, rfl, HM.out, HR.out, HB.out⟩
end Go.Proofs.Ytlbfkcgejpboeaa.Rs
