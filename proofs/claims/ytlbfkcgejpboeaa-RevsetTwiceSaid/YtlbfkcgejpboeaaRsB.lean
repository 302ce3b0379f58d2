/-
  The comparisons and closures of revset, and cmp's functions; In, counts, Sound of the reference.
-/
import Derived.Test.YtlbfkcgejpboeaaRsA
namespace Go.Proofs.Ytlbfkcgejpboeaa.Rs
open Go.RowKit Go.Proofs Go.Sort
set_option linter.unusedVariables false
set_option linter.unusedSimpArgs false
set_option linter.unusedSectionVars false

def cmpI (x y : Int) : Int := if x < y then -1 else if y < x then 1 else 0
theorem isNaN_calls (x : Int) (w : World) : Calls Try.prog 46 #[.int .i64 x] w fun e w' => e = .returned (.bool false) ∧ w = w' := by
  go_enter Try.func46, Try.ntmps46
  go_wp2
  go_ret
  simp
theorem compare_calls (x y : Int) (w : World) : Calls Try.prog 35 #[.int .i64 x, .int .i64 y] w fun e w' => e = .returned (.int .i64 (cmpI x y)) ∧ w = w' := by
  unfold cmpI
  by_cases h1 : x < y
  · have d1 : decide (x < y) = true := decide_eq_true h1
    rw [if_pos h1]
    clear h1
    go_enter Try.func35, Try.ntmps35
    go_wp2_with (go_at_call 46; refine (isNaN_calls _ _).mono ?_; rintro e w' ⟨rfl, rfl⟩)
    go_ret
    exact ⟨rfl, rfl⟩
  · have d1 : decide (x < y) = false := decide_eq_false h1
    rw [if_neg h1]
    by_cases h2 : y < x
    · have d2 : decide (y < x) = true := decide_eq_true h2
      rw [if_pos h2]
      clear h1 h2
      go_enter Try.func35, Try.ntmps35
      go_wp2_with (go_at_call 46; refine (isNaN_calls _ _).mono ?_; rintro e w' ⟨rfl, rfl⟩)
      go_ret
      exact ⟨rfl, rfl⟩
    · have d2 : decide (y < x) = false := decide_eq_false h2
      rw [if_neg h2]
      clear h1 h2
      go_enter Try.func35, Try.ntmps35
      go_wp2_with (go_at_call 46; refine (isNaN_calls _ _).mono ?_; rintro e w' ⟨rfl, rfl⟩)
      go_ret
      exact ⟨rfl, rfl⟩
theorem closure34 (x y : R) (W : World) : Calls Try.prog 34 #[.agg #[.int .i64 x.1, .int .i64 x.2], .agg #[.int .i64 y.1, .int .i64 y.2]] W fun e w' => e = .returned (.int .i64 (cmpI x.1 y.1)) ∧ ∃ q os', w' = grow (W.drewN q) os' := by
  have hcon := fun W' => compare_calls x.1 y.1 W'
  generalize cmpI x.1 y.1 = r at hcon ⊢
  go_enter Try.func34, Try.ntmps34
  go_wp2_with (go_at_call 35; refine (hcon _).mono ?_; rintro e w' ⟨rfl, rfl⟩)
  go_ret
  exact ⟨rfl, 0, _, by rw [alloc_eq_grow, alloc_eq_grow, grow_grow]; rfl⟩
theorem closure48 (x y n : Int) (W : World) : Calls Try.prog 48 #[.agg #[.int .i64 x, .int .i64 y], .int .i64 n] W fun e w' => e = .returned (.int .i64 (cmpI x n)) ∧ w' = W.alloc (.cells #[.int .i64 x, .int .i64 y] 29) := by
  have hcon := fun W' => compare_calls x n W'
  generalize cmpI x n = r at hcon ⊢
  go_enter Try.func48, Try.ntmps48
  go_wp2_with (go_at_call 35; refine (hcon _).mono ?_; rintro e w' ⟨rfl, rfl⟩)
  go_ret
  exact ⟨rfl, rfl⟩

/-- the three ways to make a set of two -/
def op3 (k : Nat) (a b : Bool) : Bool := if k = 0 then a || b else if k = 1 then a && b else a && !b
theorem union1_calls (a b : Bool) (w : World) : Calls Try.prog 41 #[.bool a, .bool b] w fun e w' => e = .returned (.bool (op3 0 a b)) ∧ w = w' := by
  cases a <;> cases b
  all_goals
    go_enter Try.func41, Try.ntmps41
    go_wp2
    go_ret
    exact ⟨rfl, rfl⟩
theorem meet1_calls (a b : Bool) (w : World) : Calls Try.prog 42 #[.bool a, .bool b] w fun e w' => e = .returned (.bool (op3 1 a b)) ∧ w = w' := by
  cases a <;> cases b
  all_goals
    go_enter Try.func42, Try.ntmps42
    go_wp2
    go_ret
    exact ⟨rfl, rfl⟩
theorem minus1_calls (a b : Bool) (w : World) : Calls Try.prog 43 #[.bool a, .bool b] w fun e w' => e = .returned (.bool (op3 2 a b)) ∧ w = w' := by
  cases a <;> cases b
  all_goals
    go_enter Try.func43, Try.ntmps43
    go_wp2
    go_ret
    exact ⟨rfl, rfl⟩
theorem counts_calls (a b : Bool) (k : Nat) (hk : k < 3) (w : World) : Calls Try.prog 50 #[.bool a, .bool b, .int .i64 ((k : Int) + 1)] w fun e w' => e = .returned (.bool (op3 k a b)) ∧ w = w' := by
  match k, hk with
  | 0, _ =>
    cases a <;> cases b
    all_goals
      go_enter Try.func50, Try.ntmps50
      go_wp2
      go_ret
      exact ⟨rfl, rfl⟩
  | 1, _ =>
    cases a <;> cases b
    all_goals
      go_enter Try.func50, Try.ntmps50
      go_wp2
      go_ret
      exact ⟨rfl, rfl⟩
  | 2, _ =>
    cases a <;> cases b
    all_goals
      go_enter Try.func50, Try.ntmps50
      go_wp2
      go_ret
      exact ⟨rfl, rfl⟩
theorem rsound_calls (x y : Int) (w : World) : Calls Try.prog 38 #[.agg #[.int .i64 x, .int .i64 y]] w fun e w' => e = .returned (.bool (sound (x, y))) ∧ w' = w.alloc (.cells #[.int .i64 x, .int .i64 y] 29) := by
  unfold sound
  cases h1 : decide (1 ≤ x)
  all_goals cases h2 : decide (x ≤ y)
  all_goals cases h3 : decide (y ≤ 1073741824)
  all_goals
    go_enter Try.func38, Try.ntmps38
    go_wp2
    go_ret
    exact ⟨rfl, rfl⟩
theorem rsound_is {x y : Int} {b : Bool} (h : sound (x, y) = b) (w : World) : Calls Try.prog 38 #[.agg #[.int .i64 x, .int .i64 y]] w fun e w' => e = .returned (.bool b) ∧ w' = w.alloc (.cells #[.int .i64 x, .int .i64 y] 29) := by
  rw [← h]; exact rsound_calls x y w
theorem rsound_grown {x y : Int} {b : Bool} (h : sound (x, y) = b) (w : World) (n : Nat) (os : Array Obj) : Calls Try.prog 38 #[.agg #[.int .i64 x, .int .i64 y]] (grow (w.drewN n) os) fun e w'' => e = .returned (.bool b) ∧ ∃ p : GrownBy, w'' = grow (w.drewN p.n) p.os :=
  Calls.grown_of ((rsound_is h _).mono fun e w' h => ⟨h.1, 0, #[.cells #[.int .i64 x, .int .i64 y] 29], by rw [h.2, alloc_eq_grow]; rfl⟩)

theorem or_calls {w : World} {g : Nat} {e f : Int} (c0 : w.cell? ⟨g, 0, none⟩ = some (.int .i64 e)) (c1 : w.cell? ⟨g, 1, none⟩ = some (.int .i64 f)) :
    Calls Try.prog 51 #[.slice (some ⟨g, 0, none⟩) 2 2] w fun r w' => r = .returned (.int .i64 (if e = 0 then f else e)) ∧ w = w' := by
  by_cases he : e = 0
  · subst he
    by_cases hf : f = 0
    · subst hf
      go_enter Try.func51, Try.ntmps51
      go_wp2
      go_loop [8] (fun i => ∃ k : Nat, k ≤ 2 ∧ i = .int .i64 k) (fun i => 2 - (intOf i).toNat)
      case atStart => exact ⟨0, by omega, rfl⟩
      case round =>
        obtain ⟨k, hk, rfl⟩ := hrel
        match k, hk with
        | 0, _ => go_wp2; refine ⟨⟨1, by omega, rfl⟩, by simp [intOf]⟩
        | 1, _ => go_wp2; refine ⟨⟨2, by omega, rfl⟩, by simp [intOf]⟩
        | 2, _ => go_wp2; go_ret; exact ⟨rfl, rfl⟩
    · have hd : (f == 0) = false := by simpa using hf
      have hd2 : (f != 0) = true := by simpa using hf
      go_enter Try.func51, Try.ntmps51
      go_wp2
      go_loop [8] (fun i => ∃ k : Nat, k ≤ 1 ∧ i = .int .i64 k) (fun i => 2 - (intOf i).toNat)
      case atStart => exact ⟨0, by omega, rfl⟩
      case round =>
        obtain ⟨k, hk, rfl⟩ := hrel
        match k, hk with
        | 0, _ => go_wp2; refine ⟨⟨1, by omega, rfl⟩, by simp [intOf]⟩
        | 1, _ => go_wp2; go_ret; exact ⟨rfl, rfl⟩
  · have hd : (e == 0) = false := by simpa using he
    have hd2 : (e != 0) = true := by simpa using he
    rw [if_neg he]
    go_enter Try.func51, Try.ntmps51
    go_wp2
    go_loop [8] (fun i => i = .int .i64 0) (fun i => 2 - (intOf i).toNat)
    case atStart => rfl
    case round =>
      subst hrel
      go_wp2
      go_ret
      exact ⟨rfl, rfl⟩
end Go.Proofs.Ytlbfkcgejpboeaa.Rs
