/-
  Lists of ranges and of numbers in memory: what is read, what is owned.
-/
import Derived.Test.YtlbfkcgejpboeaaProg
import Derived.Test.YtlbfkcgejpboeaaRsPlain
import Derived.WalkKit
import Derived.KernelRfl
import Derived.Below
import Derived.Lib.Hide
import Derived.Deep.QuietTactic
import Derived.BigQuiet
import Derived.Deep.RegionHeld3
import Derived.Deep.AppendLies
import Derived.Deep.DrawnRows
import Derived.Laws.Rows
import Derived.Maps.AppendAt
import Derived.Lib.SliceRun
namespace Go.Proofs.Ytlbfkcgejpboeaa.Rs
open Go.RowKit Go.Proofs
set_option linter.unusedVariables false
set_option linter.unusedSimpArgs false
set_option linter.unusedSectionVars false

theorem info29 : (Try.prog.info? 29).map (fun i => (i.zero, i.size, i.bytes)) = some (some (.agg #[.int .i64 0, .int .i64 0]), 2, 16) := by kernel_rfl
theorem info3 : (Try.prog.info? 3).map (fun i => (i.zero, i.size, i.bytes)) = some (some (.int .i64 0), 1, 8) := by kernel_rfl

def vR (r : R) : Value := .agg #[.int .i64 r.1, .int .i64 r.2]
/-- a slice value that reads as these ranges -/
def RdR (w : World) (v : Value) (rs : List R) : Prop :=
  ∃ a c, v = .slice a rs.length c ∧ rs.length ≤ c ∧ c ≤ 9223372036854775807 ∧
    (rs = [] ∨ ∃ g o, a = some ⟨g, o, none⟩ ∧ ∀ i, i < rs.length → w.cell? ⟨g, o + i * 2, none⟩ = some (.int .i64 (rs.getD i (0, 0)).1) ∧ w.cell? ⟨g, o + i * 2 + 1, none⟩ = some (.int .i64 (rs.getD i (0, 0)).2))
/-- a slice value that reads as these numbers -/
def RdI (w : World) (v : Value) (xs : List Int) : Prop :=
  ∃ a c, v = .slice a xs.length c ∧ xs.length ≤ c ∧ c ≤ 9223372036854775807 ∧
    (xs = [] ∨ ∃ g o, a = some ⟨g, o, none⟩ ∧ ∀ i, i < xs.length → w.cell? ⟨g, o + i, none⟩ = some (.int .i64 (xs.getD i 0)))
section
variable {w w' : World} {v : Value} {rs : List R} {xs : List Int}
theorem cell_of_below (h : Below w.heap.size w w') {p : Addr} {u : Value} (hc : w.cell? p = some u) : w'.cell? p = some u :=
  (h.cell (World.block_lt_of_cell? w _ hc)).trans hc
theorem RdR.nil (w : World) : RdR w (.slice none 0 0) [] := ⟨none, 0, rfl, Nat.le_refl _, by omega, .inl rfl⟩
theorem RdI.nil (w : World) : RdI w (.slice none 0 0) [] := ⟨none, 0, rfl, Nat.le_refl _, by omega, .inl rfl⟩
theorem RdR.move (hk : ∀ p u, w.cell? p = some u → w'.cell? p = some u) (h : RdR w v rs) : RdR w' v rs := by
  obtain ⟨a, c, rfl, h1, h2, h3⟩ := h
  refine ⟨a, c, rfl, h1, h2, h3.imp id ?_⟩
  rintro ⟨g, o, rfl, hc⟩
  exact ⟨g, o, rfl, fun i hi => ⟨hk _ _ (hc i hi).1, hk _ _ (hc i hi).2⟩⟩
theorem RdI.move (hk : ∀ p u, w.cell? p = some u → w'.cell? p = some u) (h : RdI w v xs) : RdI w' v xs := by
  obtain ⟨a, c, rfl, h1, h2, h3⟩ := h
  refine ⟨a, c, rfl, h1, h2, h3.imp id ?_⟩
  rintro ⟨g, o, rfl, hc⟩
  exact ⟨g, o, rfl, fun i hi => hk _ _ (hc i hi)⟩
theorem RdR.below (h : RdR w v rs) (hb : Below w.heap.size w w') : RdR w' v rs := h.move fun _ _ => cell_of_below hb
theorem RdI.below (h : RdI w v xs) (hb : Below w.heap.size w w') : RdI w' v xs := h.move fun _ _ => cell_of_below hb
theorem RdR.len {a : Option Addr} {n c : Nat} (h : RdR w (.slice a n c) rs) : rs.length = n := by
  obtain ⟨a', c', he, _⟩ := h; injection he with _ h1 _; exact h1.symm
theorem RdI.len {a : Option Addr} {n c : Nat} (h : RdI w (.slice a n c) xs) : xs.length = n := by
  obtain ⟨a', c', he, _⟩ := h; injection he with _ h1 _; exact h1.symm
theorem RdR.parts {a : Option Addr} {n c : Nat} (h : RdR w (.slice a n c) rs) : n ≤ c ∧ c ≤ 9223372036854775807 ∧
    (rs = [] ∨ ∃ g o, a = some ⟨g, o, none⟩ ∧ ∀ i, i < rs.length → w.cell? ⟨g, o + i * 2, none⟩ = some (.int .i64 (rs.getD i (0, 0)).1) ∧ w.cell? ⟨g, o + i * 2 + 1, none⟩ = some (.int .i64 (rs.getD i (0, 0)).2)) := by
  obtain ⟨a', c', he, h1, h2, h3⟩ := h
  injection he with e1 e2 e3
  subst e1 e2 e3
  exact ⟨h1, h2, h3⟩
theorem RdR.at_ {a : Option Addr} {n c : Nat} (h : RdR w (.slice a n c) rs) {k : Nat} (hk : k < rs.length) : ∃ g o, a = some ⟨g, o, none⟩ ∧ ∀ i, i < rs.length → w.cell? ⟨g, o + i * 2, none⟩ = some (.int .i64 (rs.getD i (0, 0)).1) ∧ w.cell? ⟨g, o + i * 2 + 1, none⟩ = some (.int .i64 (rs.getD i (0, 0)).2) := by
  rcases h.parts.2.2 with e | h
  · rw [e] at hk; simp at hk
  · exact h
theorem RdI.at_ {a : Option Addr} {n c : Nat} (h : RdI w (.slice a n c) xs) {k : Nat} (hk : k < xs.length) : ∃ g o, a = some ⟨g, o, none⟩ ∧ ∀ i, i < xs.length → w.cell? ⟨g, o + i, none⟩ = some (.int .i64 (xs.getD i 0)) := by
  obtain ⟨a', c', he, h1, h2, h3⟩ := h
  injection he with e1 e2 e3
  subst e1 e2 e3
  rcases h3 with e | h
  · rw [e] at hk; simp at hk
  · exact h
end

/-! cells -/
def cR (rs : List R) : List Value := rs.flatMap fun r => [.int .i64 r.1, .int .i64 r.2]
def cI (xs : List Int) : List Value := xs.map (.int .i64)
theorem cR_len : ∀ rs : List R, (cR rs).length = rs.length * 2
  | [] => rfl
  | r :: rs => by
    have ih := cR_len rs
    show (_ :: _ :: cR rs).length = _
    simp only [List.length_cons, ih]; omega
theorem cR_append (a b : List R) : cR (a ++ b) = cR a ++ cR b := by simp [cR]
theorem cI_append (a b : List Int) : cI (a ++ b) = cI a ++ cI b := by simp [cI]
theorem cI_len (xs : List Int) : (cI xs).length = xs.length := by simp [cI]
theorem cR_get : ∀ {rs : List R} {i : Nat}, i < rs.length → (cR rs)[i * 2]? = some (.int .i64 (rs.getD i (0, 0)).1) ∧ (cR rs)[i * 2 + 1]? = some (.int .i64 (rs.getD i (0, 0)).2)
  | [], i, h => by simp at h
  | r :: rs, 0, _ => ⟨rfl, rfl⟩
  | r :: rs, i + 1, h => by
    have ih := cR_get (rs := rs) (i := i) (by simpa using h)
    rw [show (i + 1) * 2 = i * 2 + 1 + 1 by omega]
    exact ih
theorem cI_get {xs : List Int} {i : Nat} (h : i < xs.length) : (cI xs)[i]? = some (.int .i64 (xs.getD i 0)) := by
  simp [cI, List.getElem?_eq_getElem h, List.getD_eq_getElem?_getD]
theorem cR_one (rs : List R) : ∀ u ∈ cR rs, u.oneCell' = true := by
  intro u hu
  simp only [cR, List.mem_flatMap] at hu
  obtain ⟨r, _, h⟩ := hu
  simp at h
  rcases h with rfl | rfl <;> rfl
theorem cI_one (xs : List Int) : ∀ u ∈ cI xs, u.oneCell' = true := by
  intro u hu
  simp only [cI, List.mem_map] at hu
  obtain ⟨r, _, rfl⟩ := hu
  rfl
theorem add_plain (g j : Nat) : (⟨g, 0, none⟩ : Addr).add j = ⟨g, j, none⟩ := by unfold Addr.add; split <;> simp_all
theorem add_plain' (g o j : Nat) : (⟨g, o, none⟩ : Addr).add j = ⟨g, o + j, none⟩ := by unfold Addr.add; split <;> simp_all
theorem own_nil (W : World) (base : Nat) (e : TypeId) (size : Nat) : W.ownsRow base e size (.slice none 0 0) 0 [] := ⟨by simp, .inl ⟨rfl, rfl⟩⟩
theorem own_form {w : World} {base n size : Nat} {e : TypeId} {v : Value} {xs : List Value} (h : w.ownsRow base e size v n xs) : ∃ a c, v = .slice a n c := by
  rcases h.2 with ⟨rfl, rfl⟩ | ⟨g, cap, cur, rfl, _⟩
  · exact ⟨none, 0, rfl⟩
  · exact ⟨_, cap, rfl⟩
theorem own_base {w : World} {base : Nat} {e : TypeId} {size n : Nat} {v : Value} {xs : List Value} (h : w.ownsRow base e size v n xs) (k : Nat) (hk : v.ownBlock = some k) : base ≤ k := by
  rcases h.2 with ⟨rfl, _⟩ | ⟨g, cap, cur, rfl, hb, _⟩
  · simp [Value.ownBlock] at hk
  · have : g = k := by simpa [Value.ownBlock] using hk
    omega
theorem RdR.own {w : World} {base : Nat} {v : Value} {rs : List R} (h : w.ownsRow base 29 2 v rs.length (cR rs)) : RdR w v rs := by
  rcases h.2 with ⟨rfl, h0⟩ | ⟨g, cap, cur, rfl, hb, hh, hnc, hcm, hcs, ht⟩
  · rw [List.length_eq_zero_iff.1 h0]; exact RdR.nil w
  · refine ⟨_, cap, rfl, hnc, by simpa [maxLen] using hcm, .inr ⟨g, 0, rfl, fun i hi => ⟨?_, ?_⟩⟩⟩
    · rw [Nat.zero_add, ← add_plain]; exact h.cells (g := g) rfl _ _ (cR_get hi).1
    · rw [Nat.zero_add, ← add_plain]; exact h.cells (g := g) rfl _ _ (cR_get hi).2
theorem RdI.own {w : World} {base : Nat} {v : Value} {xs : List Int} (h : w.ownsRow base 3 1 v xs.length (cI xs)) : RdI w v xs := by
  rcases h.2 with ⟨rfl, h0⟩ | ⟨g, cap, cur, rfl, hb, hh, hnc, hcm, hcs, ht⟩
  · rw [List.length_eq_zero_iff.1 h0]; exact RdI.nil w
  · refine ⟨_, cap, rfl, hnc, by simpa [maxLen] using hcm, .inr ⟨g, 0, rfl, fun i hi => ?_⟩⟩
    rw [Nat.zero_add, ← add_plain]; exact h.cells (g := g) rfl _ _ (cI_get hi)
theorem below_trans {a b c : World} (h : Below a.heap.size a b) (k : Below b.heap.size b c) : Below a.heap.size a c := h.trans (k.mono h.size)
theorem below_of_grown {w w1 w2 : World} {v : Value} {n size : Nat} {e : TypeId} {xs : List Value} (h : Below w.heap.size w w1) (ho : w1.ownsRow w.heap.size e size v n xs) (hg : w1.grownBy w2 v.ownBlock) : Below w.heap.size w w2 :=
  h.grown hg h.size (fun k hk => own_base ho k hk)
end Go.Proofs.Ytlbfkcgejpboeaa.Rs
