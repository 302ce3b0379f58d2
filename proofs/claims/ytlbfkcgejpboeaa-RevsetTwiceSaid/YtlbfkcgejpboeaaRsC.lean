/-
  Appends onto rows of the call's own; join.
-/
import Derived.Test.YtlbfkcgejpboeaaRsB
import Derived.StillTailTactics
import Derived.Lib.AppendZeros
namespace Go.Proofs.Ytlbfkcgejpboeaa.Rs
open Go.RowKit Go.Proofs Go.Sort
set_option linter.unusedVariables false
set_option linter.unusedSimpArgs false
set_option linter.unusedSectionVars false

section
variable {ops : Array Oper} {rest : List Oper} {o : Oper} {a : Act} {Q : Exit → Act → World → Prop}
theorem run_append_R {W : World} (base : Nat) (ty : TypeId)
    (v x : Value) (rs qs : List R) (HO : W.ownsRow base 29 2 v rs.length (cR rs)) (HR : RdR W x qs) (hbase : base ≤ W.heap.size) (hl : rs.length + qs.length ≤ 1000000000) :
    ∃ v1 w1, (Builtin.append_ #[22, 22] ty #[v, x]).run Try.prog W = .ok v1 w1 ∧ w1.ownsRow base 29 2 v1 (rs ++ qs).length (cR (rs ++ qs)) ∧ W.grownBy w1 v.ownBlock := by
  obtain ⟨i0, hi, hzz⟩ := Option.map_eq_some_iff.1 info29
  simp only [Prod.mk.injEq] at hzz
  obtain ⟨hz0, hz1, hz2⟩ := hzz
  obtain ⟨A, c, rfl, h1, h2, hc⟩ := HR
  rcases A with _ | ad
  · have h0 : qs = [] := by
      rcases hc with h | ⟨g, o, e, _⟩
      · exact h
      · cases e
    subst h0
    refine ⟨v, W, ?_, by simpa using HO, World.grownBy.refl W _⟩
    rcases HO.2 with ⟨rfl, hn⟩ | ⟨g, cap, cur, rfl, _, _, hnc, _⟩
    · simp [Builtin.append_, run_underlying Try.underlying22, sizeOf, typeInfo, hi, Builtin.lenOf, Builtin.firstCells]
    · simp [Builtin.append_, run_underlying Try.underlying22, sizeOf, typeInfo, hi, Builtin.lenOf, Builtin.firstCells, hnc, storeCells]
  · obtain ⟨v1, w1, hr, h2, h3, _, h5⟩ := run_append_own_at (P := Try.prog) W base 22 ty 29 i0 _ 2 16 Try.underlying22 hi hz0 hz1 hz2 rfl (by omega) v rs.length (cR rs) HO ad qs.length c (cR qs) (cR_len qs)
      (fun j u hu => by
        rcases hc with h | ⟨g, o, e, hcell⟩
        · subst h; simp [cR] at hu
        · injection e with e
          subst e
          have hj : j < (cR qs).length := by
            rcases Nat.lt_or_ge j (cR qs).length with h | h
            · exact h
            · rw [List.getElem?_eq_none h] at hu; cases hu
          rw [cR_len] at hj
          have hg := cR_get (rs := qs) (i := j / 2) (by omega)
          have hcc := hcell (j / 2) (by omega)
          rw [add_plain']
          rcases Nat.mod_two_eq_zero_or_one j with hm | hm
          · have e : j / 2 * 2 = j := by omega
            rw [e] at hg hcc
            rw [hg.1] at hu; cases hu; exact hcc.1
          · have e : j / 2 * 2 + 1 = j := by omega
            rw [e] at hg
            rw [show o + j / 2 * 2 + 1 = o + j by omega] at hcc
            rw [hg.2] at hu; cases hu; exact hcc.2)
      (cR_one qs) (by simp only [maxLen]; omega) (by omega) hbase
    exact ⟨v1, w1, hr, by rw [List.length_append, cR_append]; exact h2, h3⟩
theorem wpList_append_R {W : World} (base : Nat) (hgd : o.guard = none) (s x : Operand)
    (ho : o.op = .call { callee := .builtin .append, args := #[s, x], argTypes := #[22, 22] })
    (v vx : Value) (rs qs : List R) (hs : a.eval s = v) (hx : a.eval x = vx) (HO : W.ownsRow base 29 2 v rs.length (cR rs)) (HR : RdR W vx qs) (hbase : base ≤ W.heap.size) (hl : rs.length + qs.length ≤ 1000000000)
    (h : ∀ v1 w1, w1.ownsRow base 29 2 v1 (rs ++ qs).length (cR (rs ++ qs)) → W.grownBy w1 v.ownBlock → wpList Try.prog ops Q rest (a.put o.dst v1) w1) :
    wpList Try.prog ops Q (o :: rest) a W := by
  obtain ⟨v1, w1, hr, h2, h3⟩ := run_append_R base o.type v vx rs qs HO HR hbase hl
  exact Lib.wpList_append_run W hgd s x 22 22 ho v vx hs hx v1 w1 hr (h v1 w1 h2 h3)
theorem run_append_I {W : World} (base : Nat) (ty : TypeId)
    (v x : Value) (rs qs : List Int) (HO : W.ownsRow base 3 1 v rs.length (cI rs)) (HR : RdI W x qs) (hbase : base ≤ W.heap.size) (hl : rs.length + qs.length ≤ 1000000000) :
    ∃ v1 w1, (Builtin.append_ #[35, 35] ty #[v, x]).run Try.prog W = .ok v1 w1 ∧ w1.ownsRow base 3 1 v1 (rs ++ qs).length (cI (rs ++ qs)) ∧ W.grownBy w1 v.ownBlock := by
  obtain ⟨i0, hi, hzz⟩ := Option.map_eq_some_iff.1 info3
  simp only [Prod.mk.injEq] at hzz
  obtain ⟨hz0, hz1, hz2⟩ := hzz
  obtain ⟨A, c, rfl, h1, h2, hc⟩ := HR
  rcases A with _ | ad
  · have h0 : qs = [] := by
      rcases hc with h | ⟨g, o, e, _⟩
      · exact h
      · cases e
    subst h0
    refine ⟨v, W, ?_, by simpa using HO, World.grownBy.refl W _⟩
    rcases HO.2 with ⟨rfl, hn⟩ | ⟨g, cap, cur, rfl, _, _, hnc, _⟩
    · simp [Builtin.append_, run_underlying Try.underlying35, sizeOf, typeInfo, hi, Builtin.lenOf, Builtin.firstCells]
    · simp [Builtin.append_, run_underlying Try.underlying35, sizeOf, typeInfo, hi, Builtin.lenOf, Builtin.firstCells, hnc, storeCells]
  · obtain ⟨v1, w1, hr, h2, h3, _, h5⟩ := run_append_own_at (P := Try.prog) W base 35 ty 3 i0 _ 1 8 Try.underlying35 hi hz0 hz1 hz2 rfl (by omega) v rs.length (cI rs) HO ad qs.length c (cI qs) (by rw [cI_len]; omega)
      (fun j u hu => by
        rcases hc with h | ⟨g, o, e, hcell⟩
        · subst h; simp [cI] at hu
        · injection e with e
          subst e
          have hj : j < (cI qs).length := by
            rcases Nat.lt_or_ge j (cI qs).length with h | h
            · exact h
            · rw [List.getElem?_eq_none h] at hu; cases hu
          rw [cI_len] at hj
          rw [cI_get hj] at hu
          cases hu
          rw [add_plain']
          exact hcell j hj)
      (cI_one qs) (by simp only [maxLen]; omega) (by omega) hbase
    exact ⟨v1, w1, hr, by rw [List.length_append, cI_append]; exact h2, h3⟩
theorem wpList_append_I {W : World} (base : Nat) (hgd : o.guard = none) (s x : Operand)
    (ho : o.op = .call { callee := .builtin .append, args := #[s, x], argTypes := #[35, 35] })
    (v vx : Value) (rs qs : List Int) (hs : a.eval s = v) (hx : a.eval x = vx) (HO : W.ownsRow base 3 1 v rs.length (cI rs)) (HR : RdI W vx qs) (hbase : base ≤ W.heap.size) (hl : rs.length + qs.length ≤ 1000000000)
    (h : ∀ v1 w1, w1.ownsRow base 3 1 v1 (rs ++ qs).length (cI (rs ++ qs)) → W.grownBy w1 v.ownBlock → wpList Try.prog ops Q rest (a.put o.dst v1) w1) :
    wpList Try.prog ops Q (o :: rest) a W := by
  obtain ⟨v1, w1, hr, h2, h3⟩ := run_append_I base o.type v vx rs qs HO HR hbase hl
  exact Lib.wpList_append_run W hgd s x 35 35 ho v vx hs hx v1 w1 hr (h v1 w1 h2 h3)
end
theorem RdR.block {w : World} {g : Nat} {r : R} (h : w.heap[g]? = some (.cells #[.int .i64 r.1, .int .i64 r.2] 29 (0, 0))) : RdR w (.slice (some ⟨g, 0, none⟩) 1 1) [r] :=
  ⟨_, 1, rfl, Nat.le_refl _, by omega, .inr ⟨g, 0, rfl, fun i hi => by
    have : i = 0 := by simpa using hi
    subst this
    exact ⟨(cell_of_row w g 0 _ _ _ h).trans rfl, (cell_of_row w g 1 _ _ _ h).trans rfl⟩⟩⟩
theorem RdI.block2 {w : World} {g : Nat} {x y : Int} (h : w.heap[g]? = some (.cells #[.int .i64 x, .int .i64 y] 3 (0, 0))) : RdI w (.slice (some ⟨g, 0, none⟩) 2 2) [x, y] :=
  ⟨_, 2, rfl, Nat.le_refl _, by omega, .inr ⟨g, 0, rfl, fun i hi => by
    have hi' : i < 2 := hi
    match i, hi' with
    | 0, _ => exact (cell_of_row w g 0 _ _ _ h).trans rfl
    | 1, _ => exact (cell_of_row w g 1 _ _ _ h).trans rfl⟩⟩
theorem RdI.block1 {w : World} {g : Nat} {x : Int} (h : w.heap[g]? = some (.cells #[.int .i64 x] 3 (0, 0))) : RdI w (.slice (some ⟨g, 0, none⟩) 1 1) [x] :=
  ⟨_, 1, rfl, Nat.le_refl _, by omega, .inr ⟨g, 0, rfl, fun i hi => by
    have : i = 0 := by simpa using hi
    subst this
    exact (cell_of_row w g 0 _ _ _ h).trans rfl⟩⟩
theorem below_grown {base : Nat} {w w1 : World} {v : Value} {n size : Nat} {e : TypeId} {xs : List Value} (ho : w.ownsRow base e size v n xs) (hb : base ≤ w.heap.size) (hg : w.grownBy w1 v.ownBlock) : Below base w w1 :=
  (Below.refl _ _).grown hg hb (fun k hk => own_base ho k hk)
end Go.Proofs.Ytlbfkcgejpboeaa.Rs
