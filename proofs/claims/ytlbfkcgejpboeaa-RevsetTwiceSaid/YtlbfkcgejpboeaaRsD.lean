/-
  join: a range put behind a row of the call's own.
-/
import Derived.Test.YtlbfkcgejpboeaaRsC
import Derived.Laws.OwnMore
namespace Go.Proofs.Ytlbfkcgejpboeaa.Rs
open Go.RowKit Go.Proofs Go.Sort
set_option linter.unusedVariables false
set_option linter.unusedSimpArgs false
set_option linter.unusedSectionVars false

set_option maxHeartbeats 1000000 in
set_option maxRecDepth 20000 in
theorem join_nil {w : World} {base : Nat} {v : Value} {r : R} (h : w.ownsRow base 29 2 v 0 []) (hb : base ≤ w.heap.size) :
    Calls Try.prog 36 #[v, vR r] w fun e w' => ∃ v', e = .returned v' ∧ w'.ownsRow base 29 2 v' 1 (cR [r]) ∧ Below base w w' := by
  obtain ⟨A, c, rfl⟩ := own_form h
  obtain ⟨x, y⟩ := r
  have H := Lib.hid h
  clear h
  unfold vR
  go_enter Try.func36, Try.ntmps36
  go_wp2
  go_quiet (fail)
  have hblk : ((w.alloc (.cells #[Value.int IntKind.i64 x, .int .i64 y] 29)).drewN nq).heap[w.heap.size]? = some (.cells #[Value.int IntKind.i64 x, .int .i64 y] 29 (0, 0)) := heap_alloc_new w _
  have hba : Below w.heap.size w ((w.alloc (.cells #[Value.int IntKind.i64 x, .int .i64 y] 29)).drewN nq) := by
    have := (Below.refl w.heap.size w).alloc (Nat.le_refl _) (.cells #[Value.int IntKind.i64 x, .int .i64 y] 29)
    exact ⟨this.os, this.tape, this.output, this.size, this.block⟩
  have hO := (H.out.alloc (.cells #[Value.int IntKind.i64 x, .int .i64 y] 29))
  replace hO : ((w.alloc (.cells #[Value.int IntKind.i64 x, .int .i64 y] 29)).drewN nq).ownsRow base 29 2 (.slice A 0 c) 0 [] := hO
  generalize (w.alloc (.cells #[Value.int IntKind.i64 x, .int .i64 y] 29)).drewN nq = W at *
  have y0 : W.cell? ⟨w.heap.size, 0, none⟩ = some (.int .i64 x) := (cell_of_row W _ 0 _ _ _ hblk).trans rfl
  have y1 : W.cell? ⟨w.heap.size, 1, none⟩ = some (.int .i64 y) := (cell_of_row W _ 1 _ _ _ hblk).trans rfl
  have HO := Lib.hid hO
  have Hba := Lib.hid hba
  have hsz := hba.size
  clear hO hba hblk
  go_wp2_with (at_builtin; refine wpList_append_R base rfl _ _ rfl _ _ [] [(x, y)] rfl rfl (HO.out.alloc _) (RdR.block (heap_alloc_new W _)) (by simp; omega) (by simp) ?_; intro v1 w1 ho hg; have HO1 := Lib.hid ho; have HG1 := Lib.hid hg; clear ho hg)
  go_ret
  refine ⟨_, rfl, HO1.out, ?_⟩
  have hb2 : Below W.heap.size W (W.alloc (.cells #[Value.int IntKind.i64 x, .int .i64 y] 29)) := (Below.refl _ _).alloc (Nat.le_refl _) _
  exact ((Hba.out.mono hb).trans (hb2.mono (by omega))).trans (below_grown (HO.out.alloc _) (by simp; omega) HG1.out)

theorem cR_snoc (m : List R) (q : R) : cR (m ++ [q]) = cR m ++ [.int .i64 q.1, .int .i64 q.2] := by rw [cR_append]; rfl
theorem cR_set (m : List R) (q : R) (z : Int) : (cR (m ++ [q])).set (m.length * 2 + 1) (.int .i64 z) = cR (m ++ [(q.1, z)]) := by
  rw [cR_snoc, cR_snoc, List.set_append_right _ _ (by rw [cR_len]; omega), cR_len, show m.length * 2 + 1 - m.length * 2 = 1 by omega]
  rfl

set_option maxHeartbeats 1000000 in
set_option maxRecDepth 20000 in
theorem join_snoc {w : World} {base : Nat} {v : Value} {m : List R} {q r : R} (h : w.ownsRow base 29 2 v (m ++ [q]).length (cR (m ++ [q]))) (hb : base ≤ w.heap.size) (hl : m.length ≤ 100000000) (hq1 : -1000000000000 ≤ q.2) (hq2 : q.2 ≤ 1000000000000) :
    Calls Try.prog 36 #[v, vR r] w fun e w' => ∃ v', e = .returned v' ∧ w'.ownsRow base 29 2 v' (joinL (m ++ [q]) r).length (cR (joinL (m ++ [q]) r)) ∧ Below base w w' := by
  obtain ⟨g, cap, rfl, hgb, hgs⟩ := h.form (by simp)
  obtain ⟨x, y⟩ := r
  obtain ⟨qx, qy⟩ := q
  simp only at hq1 hq2
  have H := Lib.hid h
  have hlen : (m ++ [(qx, qy)]).length = m.length + 1 := by simp
  have hq : w.cell? ⟨g, m.length * 2 + 1, none⟩ = some (.int .i64 qy) := (h.cellAt (m.length * 2 + 1) (by rw [hlen]; omega)).trans ((cR_get (rs := m ++ [(qx, qy)]) (i := m.length) (by simp)).2.trans (by simp))
  have hf := h.frozenAt (m.length * 2 + 1)
  clear h
  rw [joinL_snoc]
  have Hlen := Lib.hid hlen
  have Hv : Hid (Value.slice (some ⟨g, 0, none⟩) (m ++ [(qx, qy)]).length cap = .slice (some ⟨g, 0, none⟩) (m.length + 1) cap) := Lib.hid (by rw [hlen])
  clear hlen
  obtain ⟨z, hz⟩ : ∃ z, z = max qy y := ⟨_, rfl⟩
  have HZ := Lib.hid hz
  have Hset := Lib.hid (cR_set m (qx, qy) z)
  simp only
  rw [← hz]
  clear hz
  have Happ := Lib.hid (rfl : m ++ [(qx, qy)] ++ [(x, y)] = (m ++ [(qx, qy)]) ++ [(x, y)])
  generalize hM : m ++ [(qx, qy)] = M at *
  have HM := Lib.hid hM
  clear hM
  rw [Hlen.out]
  have hk1 : IntKind.i64.wrap (((m.length + 1 : Nat) : Int) - 1) = (m.length : Int) := by rw [IntWalk.i64_in _ (by omega)]; omega
  have hk2 : IntKind.i64.wrap (qy + 1) = qy + 1 := IntWalk.i64_in _ (by omega)
  unfold vR
  by_cases hc : x ≤ qy + 1
  · have hd : decide (x ≤ qy + 1) = true := decide_eq_true hc
    rw [if_pos hc]
    clear hc
    go_enter Try.func36, Try.ntmps36
    go_wp2
    have hblk := heap_alloc_new w (Obj.cells #[Value.int IntKind.i64 x, Value.int IntKind.i64 y] 29)
    have hba : Below w.heap.size w (w.alloc (Obj.cells #[Value.int IntKind.i64 x, Value.int IntKind.i64 y] 29)) := (Below.refl _ _).alloc (Nat.le_refl _) _
    have HO := Lib.hid (H.out.alloc (Obj.cells #[Value.int IntKind.i64 x, Value.int IntKind.i64 y] 29))
    have hq' := cell_of_below hba hq
    have hf' := HO.out.frozenAt (m.length * 2 + 1)
    generalize w.alloc (Obj.cells #[Value.int IntKind.i64 x, Value.int IntKind.i64 y] 29) = W at *
    have y0 : W.cell? ⟨w.heap.size, 0, none⟩ = some (.int .i64 x) := (cell_of_row W _ 0 _ _ _ hblk).trans rfl
    have y1 : W.cell? ⟨w.heap.size, 1, none⟩ = some (.int .i64 y) := (cell_of_row W _ 1 _ _ _ hblk).trans rfl
    have Hba := Lib.hid hba
    have hsz := hba.size
    clear hba hblk hq hf H
    go_quiet (fail)
    have hq2' : (W.drewN nq).cell? ⟨g, m.length * 2 + 1, none⟩ = some (.int .i64 qy) := hq'
    have hf2' : (W.drewN nq).frozen? ⟨g, m.length * 2 + 1, none⟩ = false := hf'
    have y0' : (W.drewN nq).cell? ⟨w.heap.size, 0, none⟩ = some (.int .i64 x) := y0
    have y1' : (W.drewN nq).cell? ⟨w.heap.size, 1, none⟩ = some (.int .i64 y) := y1
    have HO2 := Lib.hid (show (W.drewN nq).ownsRow base 29 2 (.slice (some ⟨g, 0, none⟩) (m.length + 1) cap) M.length (cR M) from Hv.out ▸ HO.out)
    have Hba2 := Lib.hid (show Below w.heap.size w (W.drewN nq) from ⟨Hba.out.os, Hba.out.tape, Hba.out.output, Hba.out.size, Hba.out.block⟩)
    have hsz2 : w.heap.size ≤ (W.drewN nq).heap.size := hsz
    clear hq' hf' y0 y1 HO Hba hsz
    generalize W.drewN nq = V at *
    go_wp2
    have hi0 : (0 : Int) ≤ (m.length : Int) := by omega
    have hi1 : (m.length : Int) < (m.length : Int) + 1 := by omega
    go_still_tail 12, (by kernel_rfl)
    rw [show (if qy < y then y else qy) = z by rw [HZ.out]; split <;> omega]
    change wpList _ _ _ _ _ V.drew
    go_wp2
    go_ret
    have hO3 : V.drew.ownsRow base 29 2 (.slice (some ⟨g, 0, none⟩) (m.length + 1) cap) (m.length + 1) (cR M) := Hlen.out ▸ HO2.out.drew
    have hst := hO3.stored (m.length * 2 + 1) (.int .i64 z)
    rw [Hset.out] at hst
    refine ⟨_, rfl, ?_, ?_⟩
    · have e : (m ++ [(qx, z)]).length = m.length + 1 := by simp
      rw [e]
      exact hst.1
    · exact (Hba2.out.mono hb).trans (Below.grown (a := V) (w := V.drew) ⟨rfl, rfl, rfl, Nat.le_refl _, fun i hi => rfl⟩ hst.2 (by show base ≤ V.heap.size; omega) (fun k hk => by have e : g = k := Option.some.inj hk; omega))
  · have hd : decide (x ≤ qy + 1) = false := decide_eq_false hc
    rw [if_neg hc]
    clear hc
    go_enter Try.func36, Try.ntmps36
    go_wp2
    have hblk := heap_alloc_new w (Obj.cells #[Value.int IntKind.i64 x, Value.int IntKind.i64 y] 29)
    have hba : Below w.heap.size w (w.alloc (Obj.cells #[Value.int IntKind.i64 x, Value.int IntKind.i64 y] 29)) := (Below.refl _ _).alloc (Nat.le_refl _) _
    have HO := Lib.hid (H.out.alloc (Obj.cells #[Value.int IntKind.i64 x, Value.int IntKind.i64 y] 29))
    have hq' := cell_of_below hba hq
    have hf' := HO.out.frozenAt (m.length * 2 + 1)
    generalize w.alloc (Obj.cells #[Value.int IntKind.i64 x, Value.int IntKind.i64 y] 29) = W at *
    have y0 : W.cell? ⟨w.heap.size, 0, none⟩ = some (.int .i64 x) := (cell_of_row W _ 0 _ _ _ hblk).trans rfl
    have y1 : W.cell? ⟨w.heap.size, 1, none⟩ = some (.int .i64 y) := (cell_of_row W _ 1 _ _ _ hblk).trans rfl
    have Hba := Lib.hid hba
    have hsz := hba.size
    clear hba hblk hq hf H
    go_quiet (fail)
    have hq2' : (W.drewN nq).cell? ⟨g, m.length * 2 + 1, none⟩ = some (.int .i64 qy) := hq'
    have hf2' : (W.drewN nq).frozen? ⟨g, m.length * 2 + 1, none⟩ = false := hf'
    have y0' : (W.drewN nq).cell? ⟨w.heap.size, 0, none⟩ = some (.int .i64 x) := y0
    have y1' : (W.drewN nq).cell? ⟨w.heap.size, 1, none⟩ = some (.int .i64 y) := y1
    have HO2 := Lib.hid (show (W.drewN nq).ownsRow base 29 2 (.slice (some ⟨g, 0, none⟩) (m.length + 1) cap) M.length (cR M) from Hv.out ▸ HO.out)
    have Hba2 := Lib.hid (show Below w.heap.size w (W.drewN nq) from ⟨Hba.out.os, Hba.out.tape, Hba.out.output, Hba.out.size, Hba.out.block⟩)
    have hsz2 : w.heap.size ≤ (W.drewN nq).heap.size := hsz
    clear hq' hf' y0 y1 HO Hba hsz
    generalize W.drewN nq = V at *
    go_wp2_with (at_builtin; refine wpList_append_R base rfl _ _ rfl _ _ M [(x, y)] rfl rfl (HO2.out.alloc _) (RdR.block (heap_alloc_new V _)) (by simp; omega) (by simp [Hlen.out]; omega) ?_; intro v1 w1 ho hg; have HO1 := Lib.hid ho; have HG1 := Lib.hid hg; clear ho hg)
    go_ret
    refine ⟨_, rfl, HO1.out, ?_⟩
    have hb2 : Below V.heap.size V (V.alloc (.cells #[Value.int IntKind.i64 x, .int .i64 y] 29)) := (Below.refl _ _).alloc (Nat.le_refl _) _
    exact ((Hba2.out.mono hb).trans (hb2.mono (by omega))).trans (below_grown (HO2.out.alloc _) (by simp; omega) HG1.out)
end Go.Proofs.Ytlbfkcgejpboeaa.Rs
