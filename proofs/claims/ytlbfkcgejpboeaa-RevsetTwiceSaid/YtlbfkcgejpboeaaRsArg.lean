/-
  An argument that is a list of ranges, read.
-/
import Derived.Test.YtlbfkcgejpboeaaRsW
import Derived.Deep.SlicePairs
import Derived.ChangeShapes
namespace Go.Proofs.Ytlbfkcgejpboeaa.Rs
open Go.RowKit Go.Proofs Go.ChangeShapes Go.WideShapes Go.Deep
set_option linter.unusedVariables false

def intIn : Value → Int
  | .int _ n => n
  | _ => 0
theorem spot_none {w : World} {p : Addr} {u : Value} (h : w.cell? p = some u) : p.spot = none := by
  cases hs : p.spot with
  | none => rfl
  | some q =>
    unfold World.cell? at h
    split at h
    · simp [hs] at h
    · cases h
theorem opened {H : Type} {enc : TypeId × Value → H} {W : World} {base : Nat} {sp : Nat → Bool} {hd : Bool} {a : Option Addr} {len cap : Nat} {d : DataW H} {p : List MemPlace}
    (h : DataW.Trod enc Try.prog W base sp hd 22 (.slice a len cap) d p) : ∃ rs, RdR W (.slice a len cap) rs := by
  obtain ⟨fuel, hf⟩ := h
  rcases open_slice_pairs Try.underlying22 Try.underlying29 (by kernel_rfl) rfl rfl (by kernel_rfl) (by kernel_rfl) hf with ⟨hcs, _⟩ | ⟨x, l, c, m, n, V0, V1, D0, D1, P0, P1, hcs, _, hl, hm, hmm, _, hc⟩
  · simp [Value.cells] at hcs
    obtain ⟨rfl, rfl, rfl⟩ := hcs
    exact ⟨[], RdR.nil W⟩
  · simp [Value.cells] at hcs
    obtain ⟨rfl, rfl, rfl⟩ := hcs
    have hlm : len ≤ m := by rw [hmm]; split <;> omega
    refine ⟨(List.range len).map fun i => (intIn (V0 i), intIn (V1 i)), some x, cap, by simp, by simpa using hl, by simpa [maxLen] using hm, ?_⟩
    rcases Nat.eq_zero_or_pos len with h0 | h0
    · exact .inl (by simp [h0])
    · right
      have hx := spot_none (hc 0 (by omega)).1
      rw [show x.add (0 * 2) = x by unfold Addr.add; simp] at hx
      obtain ⟨g, o, s⟩ := x
      simp only at hx
      subst hx
      refine ⟨g, o, rfl, fun i hi => ?_⟩
      have hi' : i < len := by simpa using hi
      obtain ⟨c0, c1, t0, t1⟩ := hc i (by omega)
      obtain ⟨x0, e0, _⟩ := DataW.trod_int Try.underlying3 t0
      obtain ⟨x1, e1, _⟩ := DataW.trod_int Try.underlying3 t1
      injection e0 with e0
      injection e1 with e1
      rw [add_plain'] at c0 c1
      have hg : ((List.range len).map fun i => (intIn (V0 i), intIn (V1 i))).getD i (0, 0) = (intIn (V0 i), intIn (V1 i)) := by
        simp [List.getD_eq_getElem?_getD, hi']
      rw [hg, e0, e1]
      rw [e0] at c0
      rw [e1] at c1
      exact ⟨c0, c1⟩
end Go.Proofs.Ytlbfkcgejpboeaa.Rs
