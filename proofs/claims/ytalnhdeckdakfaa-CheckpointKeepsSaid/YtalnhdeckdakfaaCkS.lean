/-
  Chapter 32: the reference's Same.
-/
import Derived.Test.YtalnhdeckdakfaaCkH
import Derived.Test.YtalnhdeckdakfaaCkO
namespace Go.Proofs.Ytalnhdeckdakfaa.Dev
open Go.RowKit Go.Proofs Co
set_option linter.unusedVariables false
set_option linter.unusedSectionVars false
set_option linter.unusedSimpArgs false
variable [Bs]

def sameB (p : Int) (xs : List Int) (a : Bool) (q : Int) (ys : List Int) (b : Bool) : Bool := decide (p = q) && (((strOfNums xs).toList == (strOfNums ys).toList) && a == b)
theorem sameB_refl (p : Int) (xs : List Int) (a : Bool) : sameB p xs a p xs a = true := by simp [sameB]

set_option maxHeartbeats 4000000 in
set_option maxRecDepth 100000 in
theorem same32_calls {w : World} {v1 v2 : Value} {xs ys : List Int} (h1 : Rd w v1 xs) (h2 : Rd w v2 ys) (p q : Int) (a b : Bool) :
    Calls Try.prog 18 #[.agg #[.int .i64 p, v1, .bool a], .agg #[.int .i64 q, v2, .bool b]] w fun e w' => e = .returned (.bool (sameB p xs a q ys b)) ∧ Below w.heap.size w w' := by
  have hb : Below w.heap.size w ((w.alloc (.cells #[.int .i64 p, v1, .bool a] 34)).alloc (.cells #[.int .i64 q, v2, .bool b] 34)) := ((Below.refl _ _).alloc (Nat.le_refl _) _).alloc (by simp) _
  have t1 := run_string (U8.below hb _ _ h1)
  have t2 := run_string (U8.below hb _ _ h2)
  have HB := Lib.hid hb
  obtain ⟨A1, c1, rfl, _⟩ := h1
  obtain ⟨A2, c2, rfl, _⟩ := h2
  clear hb
  unfold sameB
  generalize strOfNums xs = s1 at *
  generalize strOfNums ys = s2 at *
  by_cases hp : p = q
  rotate_left
  · have hp' : (p == q) = false := by simpa using hp
    go_enter Try.func18, Try.ntmps18
    go_wp2
    go_ret
    exact ⟨by simp [hp], HB.out⟩
  subst hp
  by_cases hs : s1.toList = s2.toList
  rotate_left
  · go_enter Try.func18, Try.ntmps18
    go_wp2
    all_goals first | (exfalso; exact hs (by assumption)) | skip
    go_ret
    exact ⟨by simp [hs], HB.out⟩
  · go_enter Try.func18, Try.ntmps18
    go_wp2
    all_goals first | (exfalso; exact absurd hs (by assumption)) | skip
    go_ret
    exact ⟨by simp [hs], HB.out⟩
end Go.Proofs.Ytalnhdeckdakfaa.Dev
