/-
  The device: Lose.
-/
import Derived.Test.YtalnhdeckdakfaaDevI
namespace Go.Proofs.Ytalnhdeckdakfaa.Dev
open Go.RowKit Go.Proofs
set_option linter.unusedVariables false
set_option linter.unusedSectionVars false
set_option linter.unusedSimpArgs false
variable [Bs]

theorem OpsR.oneCell {w : World} : ∀ {cs : List Value} {os : List Op}, OpsR w cs os → ∀ u ∈ cs, u.oneCell' = true
  | [], [], _, u, hu => by cases hu
  | f :: a :: b :: v :: c :: cs, o :: os, h, u, hu => by
    obtain ⟨⟨rfl, rfl, rfl, ⟨_, _, rfl, _⟩, rfl⟩, h2⟩ := h
    simp only [List.mem_cons] at hu
    rcases hu with rfl | rfl | rfl | rfl | rfl | hu
    · rfl
    · rfl
    · rfl
    · rfl
    · rfl
    · exact OpsR.oneCell h2 u hu
theorem OpsR.app {w : World} : ∀ {cs ds : List Value} {os ps : List Op}, OpsR w cs os → OpsR w ds ps → OpsR w (cs ++ ds) (os ++ ps)
  | [], _, [], _, _, h => h
  | _ :: _ :: _ :: _ :: _ :: _, _, _ :: _, _, h, k => ⟨h.1, OpsR.app h.2 k⟩

theorem RdO.below {w w' : World} {v : Value} {os : List Op} (h : RdO w v os) (hb : Below w.heap.size w w') : RdO w' v os := by
  obtain ⟨a, c, cells, rfl, h1, h2, ho, hr0⟩ := h
  refine ⟨a, c, cells, rfl, h1, h2, ho.move (U8.below hb), hr0.imp id ?_⟩
  rintro ⟨g, rfl, hr⟩
  exact ⟨g, rfl, fun j v hv => cell_of_below hb (hr j v hv)⟩

section
variable {P : Program} {ops : Array Oper} {rest : List Oper} {o : Oper} {a : Act} {Q : Exit → Act → World → Prop}
/-- append(v, x...): v a row of the call's own, x operations that are read. -/
theorem run_append_op {W : World} (base : Nat) (t ty : TypeId) (ht : Try.prog.underlying t = some (.slice 90))
    (v x : Value) (n : Nat) (xs : List Value) (os : List Op) (HO : W.ownsRow base 90 5 v n xs) (HR : RdO W x os) (hbase : base ≤ W.heap.size) (hl : n + os.length ≤ 1000000) :
    ∃ cells v1 w1, OpsR W cells os ∧ (Builtin.append_ #[t, t] ty #[v, x]).run Try.prog W = .ok v1 w1 ∧ w1.ownsRow base 90 5 v1 (n + os.length) (xs ++ cells) ∧ W.grownBy w1 v.ownBlock ∧ (v1.ownBlock = v.ownBlock ∨ v1.ownBlock = some W.heap.size) := by
  obtain ⟨i0, hi, hzz⟩ := Option.map_eq_some_iff.1 infoO
  simp only [Prod.mk.injEq] at hzz
  obtain ⟨hz0, hz1, hz2⟩ := hzz
  obtain ⟨A, c, cells, rfl, h1, h2, ho, hr⟩ := HR
  rcases A with _ | ad
  · have h0 : os = [] := by
      rcases hr with ⟨_, e⟩ | ⟨g, e, _⟩
      · exact e
      · cases e
    subst h0
    have hc0 : cells = [] := List.length_eq_zero_iff.1 (by simpa using ho.len)
    subst hc0
    refine ⟨[], v, W, trivial, ?_, by simpa using HO, World.grownBy.refl W _, .inl rfl⟩
    rcases HO.2 with ⟨rfl, hn⟩ | ⟨g, cap, cur, rfl, _, _, hnc, _⟩
    · simp [Builtin.append_, run_underlying ht, sizeOf, typeInfo, hi, Builtin.lenOf, Builtin.firstCells]
    · simp [Builtin.append_, run_underlying ht, sizeOf, typeInfo, hi, Builtin.lenOf, Builtin.firstCells, hnc, storeCells]
  · obtain ⟨g, rfl, hrg⟩ : ∃ g, ad = ⟨g, 0, none⟩ ∧ W.rangeAt g 0 cells := by
      rcases hr with ⟨e, _⟩ | ⟨g, e, hr⟩
      · cases e
      · injection e with e; exact ⟨g, e, hr⟩
    obtain ⟨v1, w1, hr, h2, h3, _, h5⟩ := run_append_own_at (P := Try.prog) W base t ty 90 i0 _ 5 72 ht hi hz0 hz1 hz2 rfl (by omega) v n xs HO ⟨g, 0, none⟩ os.length c cells ho.len
      (fun j u hu => by have := hrg j u hu; rw [Nat.zero_add] at this; rw [add_plain]; exact this)
      ho.oneCell (by simp only [maxLen]; omega) (by omega) hbase
    exact ⟨cells, v1, w1, ho, hr, h2, h3, h5⟩
theorem wpList_append_op {W : World} (base : Nat) (hgd : o.guard = none) (s x : Operand) (t : TypeId)
    (ho : o.op = .call { callee := .builtin .append, args := #[s, x], argTypes := #[t, t] })
    (ht : Try.prog.underlying t = some (.slice 90))
    (v vx : Value) (n : Nat) (xs : List Value) (os : List Op) (hs : a.eval s = v) (hx : a.eval x = vx) (HO : W.ownsRow base 90 5 v n xs) (HR : RdO W vx os) (hbase : base ≤ W.heap.size) (hl : n + os.length ≤ 1000000)
    (h : ∀ cells v1 w1, OpsR W cells os → w1.ownsRow base 90 5 v1 (n + os.length) (xs ++ cells) → W.grownBy w1 v.ownBlock → wpList Try.prog ops Q rest (a.put o.dst v1) w1) :
    wpList Try.prog ops Q (o :: rest) a W := by
  obtain ⟨cells, v1, w1, hc, hr, h2, h3, _⟩ := run_append_op base t o.type ht v vx n xs os HO HR hbase hl
  exact Lib.wpList_append_run W hgd s x t t ho v vx hs hx v1 w1 hr (h cells v1 w1 hc h2 h3)
end

set_option maxHeartbeats 400000 in
set_option maxRecDepth 100000 in
theorem cloneO_calls {w : World} {v : Value} {os : List Op} (h : RdO w v os) (hB : Bs.n ≤ w.heap.size) (hl : os.length ≤ 1000000) :
    Calls Try.prog 43 #[v] w fun e w' => ∃ v1 cells, e = .returned v1 ∧ w'.ownsRow w.heap.size 90 5 v1 os.length cells ∧ OpsR w' cells os ∧ Below w.heap.size w w' := by
  have H := Lib.hid h
  obtain ⟨A, c, cells, rfl, h1, h2, ho, hr⟩ := h
  rcases A with _ | ad
  · have h0 : os = [] := by
      rcases hr with ⟨_, e⟩ | ⟨g, e, _⟩
      · exact e
      · cases e
    subst h0
    have hnil := Lib.run_eql_slice_nil (P := Try.prog) w 75 90 none 0 c 0 0 Try.underlying75
    clear h1 h2 ho hr
    go_enter Try.func43, Try.ntmps43
    go_wp2
    go_ret
    exact ⟨_, [], rfl, own_nil _ _ _ _, trivial, Below.refl _ _⟩
  · have hnil := Lib.run_eql_slice_nil (P := Try.prog) w 75 90 (some ad) os.length c 0 0 Try.underlying75
    have hB0 : Below w.heap.size w (w.alloc (.cells #[] 90)) := (Below.refl _ _).alloc (Nat.le_refl _) _
    have hR0 : RdO (w.alloc (.cells #[] 90)) (.slice (some ad) os.length c) os := H.out.below hB0
    have HR := Lib.hid hR0
    clear hR0 ho hr
    go_enter Try.func43, Try.ntmps43
    go_wp2_with (at_builtin; refine wpList_append_op w.heap.size rfl _ _ 75 rfl Try.underlying75 _ _ 0 [] os rfl rfl ?o1 ?o2 ?o3 ?o4 ?_; (case o1 => exact World.ownsRow_lit w #[] 0 (Nat.le_refl _) (by simp [maxLen]) rfl); (case o2 => exact HR.out); (case o3 => simp); (case o4 => simpa using hl); intro cells1 v1 w1 hc ho hg; have HC := Lib.hid hc; have HO := Lib.hid ho; have HG := Lib.hid hg; clear hc ho hg)
    go_ret
    have h1 := HO.out
    simp only [Nat.zero_add, List.nil_append] at h1
    have hb : Below w.heap.size w w1 := ((Below.refl _ _).alloc (Nat.le_refl _) _).grown HG.out (by simp) (fun k hk => by
      have hk' : some w.heap.size = some k := hk
      injection hk' with hk'
      omega)
    have hu : U8 (w.alloc (.cells #[] 90)) w1 := U8.of fun i hi h8 => HG.out.block i hi fun e => by
      have e' : i = w.heap.size := by
        have e2 : some i = some w.heap.size := e
        injection e2
      subst e'
      rcases h8 with h8 | ⟨cs, fr, h8⟩
      · omega
      · rw [heap_alloc_new] at h8; injection h8 with h8; injection h8 with _ h8; exact absurd h8 (by decide)
    exact ⟨_, cells1, rfl, h1, HC.out.move hu, hb⟩

theorem Rd.take {w : World} {A : Option Addr} {n c : Nat} {xs : List Int} (h : Rd w (.slice A n c) xs) (m : Nat) (hm : m ≤ n) : Rd w (.slice A m c) (xs.take m) := by
  obtain ⟨a, c', he, h1, h2, h3⟩ := h
  injection he with e1 e2 e3
  subst e1 e2 e3
  refine ⟨A, c, by rw [List.length_take, Nat.min_eq_left hm], by rw [List.length_take]; omega, h2, fun i hi => ?_⟩
  have hi' : i < m := by rw [List.length_take] at hi; omega
  obtain ⟨ad, h4, h5, h6⟩ := h3 i (by omega)
  refine ⟨ad, h4, ?_, h6⟩
  rw [h5]
  simp [List.getD_eq_getElem?_getD, List.getElem?_take, hi']

theorem RdO.take' {w : World} {A : Option Addr} {n c : Nat} {os : List Op} (h : RdO w (.slice A n c) os) (k : Nat) (hk : k ≤ n) : RdO w (.slice A k c) (os.take k) := by
  have h' := h
  obtain ⟨a, c', cells, he, h1, h2, ho, hr⟩ := h'
  injection he with e1 e2 e3
  subst e1 e2 e3
  rcases hr with ⟨rfl, rfl⟩ | ⟨g, rfl, _⟩
  · have : k = 0 := by simpa using hk
    subst this
    exact h
  · exact h.take k hk
theorem keep_eq (n : Nat) (keep : Int) : (if (n : Int) < if keep < 0 then 0 else keep then (n : Int) else if keep < 0 then 0 else keep) = ((min (max keep 0) n).toNat : Int) := by
  split <;> split at * <;> omega

set_option maxHeartbeats 1000000 in
set_option maxRecDepth 100000 in
theorem lose_dev {w : World} {d : Nat} {st : DS} {S : Nat → Prop} (h : DevI w d st S) (keep torn : Int) (hn : st.pend.length ≤ 100000) (hf : Fits st.dur (st.kept keep torn)) (hh : Bs.n ≤ w.heap.size) :
    Calls Try.prog 21 #[.pointer (some ⟨d, 0, none⟩), .agg #[.int .i64 keep, .int .i64 torn]] w fun e w' => e = .returned (.tuple #[]) ∧ Res w w' d (st.lose keep torn) S := by
  have H := Lib.hid h
  obtain ⟨rd, rn, pv, cells, h⟩ := h
  have Hf := Lib.hid hf
  have c2 := h.blk.c2
  have c3 := h.blk.c3
  have c4 := h.blk.c4
  have f3 := h.blk.fz 3
  have f4 := h.blk.fz 4
  have hlt := h.blk.lt
  have HW := Lib.hid h
  clear h hf
  go_enter Try.func21, Try.ntmps21
  go_wp2
  have h1 := HW.out.set4 true
  have h2 := h1.1.set3 0
  have hb : Below ((w.setCell ⟨d, 4, none⟩ (.bool true)).setCell ⟨d, 3, none⟩ (.int .i64 0)).heap.size ((w.setCell ⟨d, 4, none⟩ (.bool true)).setCell ⟨d, 3, none⟩ (.int .i64 0)) (((w.setCell ⟨d, 4, none⟩ (.bool true)).setCell ⟨d, 3, none⟩ (.int .i64 0)).alloc (Obj.cells #[Value.int IntKind.i64 keep, Value.int IntKind.i64 torn] 49)) := (Below.refl _ _).alloc (Nat.le_refl _) _
  have h3 := h2.1.move (fun i hi => hb.block i (h2.1.lt hi)) (U8.below hb)
  have hF : Fr (· = d) w _ := (h1.2.trans h2.2).trans (Fr.below hb)
  have hblk := heap_alloc_new ((w.setCell ⟨d, 4, none⟩ (.bool true)).setCell ⟨d, 3, none⟩ (.int .i64 0)) (Obj.cells #[Value.int IntKind.i64 keep, Value.int IntKind.i64 torn] 49)
  have hsz : ((w.setCell ⟨d, 4, none⟩ (.bool true)).setCell ⟨d, 3, none⟩ (.int .i64 0)).heap.size = w.heap.size := by simp [World.setCell]
  rw [hsz] at hblk
  generalize ((w.setCell ⟨d, 4, none⟩ (.bool true)).setCell ⟨d, 3, none⟩ (.int .i64 0)).alloc (Obj.cells #[Value.int IntKind.i64 keep, Value.int IntKind.i64 torn] 49) = wa at *
  have HWa := Lib.hid h3
  have HF := Lib.hid hF
  have y0 : wa.cell? ⟨w.heap.size, 0, none⟩ = some (.int .i64 keep) := (blk_cell hblk 0).trans rfl
  have y1 : wa.cell? ⟨w.heap.size, 1, none⟩ = some (.int .i64 torn) := (blk_cell hblk 1).trans rfl
  have z2 := h3.blk.c2
  have Hblk := Lib.hid hblk
  clear h1 h2 h3 hF hblk hb c2 c3 c4 f3 f4 hsz
  obtain ⟨A, c, rfl, hnc, hcm⟩ : ∃ A c, pv = .slice A st.pend.length c ∧ st.pend.length ≤ c ∧ c ≤ maxLen := by
    rcases HW.out.own.2 with ⟨rfl, e⟩ | ⟨g, cap, cur, rfl, _, _, e4, e5, _⟩
    · exact ⟨none, 0, by rw [e], by omega, by simp [maxLen]⟩
    · exact ⟨_, _, rfl, e4, e5⟩
  have Hkk := Lib.hid (keep_eq st.pend.length keep)
  have hkl : (min (max keep 0) (st.pend.length : Int)).toNat ≤ st.pend.length := by omega
  have Hkd : Hid (st.keep keep = (min (max keep 0) (st.pend.length : Int)).toNat) := Lib.hid rfl
  go_quiet (fail)
  rw [Hkk.out]
  generalize (min (max keep 0) (st.pend.length : Int)).toNat = kk at *
  have hbq : Below wa.heap.size wa (wa.drewN nq) := below_drewN' (Below.refl _ _) nq
  have hWb := HWa.out.move (fun i hi => hbq.block i (HWa.out.lt hi)) (U8.below hbq)
  have hFb := HF.out.trans (Fr.below hbq)
  have hblk := blk_below Hblk.out hbq
  generalize wa.drewN nq = wb at *
  have HWb := Lib.hid hWb
  have HFb := Lib.hid hFb
  have Hblkb := Lib.hid hblk
  have HR0 := Lib.hid ((RdO.own hWb.own hWb.ops).take' kk hkl)
  clear hWb hFb hblk hbq y0 y1 z2 HF HWa Hblk Hkk
  have y0 : wb.cell? ⟨w.heap.size, 0, none⟩ = some (.int .i64 keep) := (blk_cell Hblkb.out 0).trans rfl
  have y1 : wb.cell? ⟨w.heap.size, 1, none⟩ = some (.int .i64 torn) := (blk_cell Hblkb.out 1).trans rfl
  have z2 := HWb.out.blk.c2
  have hcc : kk ≤ c := by omega
  have hcm' : c ≤ 9223372036854775807 := by simpa [maxLen] using hcm
  clear hcm
  have hhb : Bs.n ≤ wb.heap.size := Nat.le_trans hh HFb.out.size
  have hdb : d < wb.heap.size := HWb.out.blk.lt
  have hwb : w.heap.size ≤ wb.heap.size := HFb.out.size
  generalize (if keep < 0 then (0 : Int) else keep) = dead
  go_wp2_with fail
  refine (cloneO_calls HR0.out hhb (by rw [List.length_take]; omega)).mono ?_
  rintro e wc ⟨dv, dcells, rfl, hO, hOp, hb⟩
  have hWc := HWb.out.move (fun i hi => hb.block i (HWb.out.lt hi)) (U8.below hb)
  have hFc := HFb.out.trans (Fr.below hb)
  have hblk := blk_below Hblkb.out hb
  have hO' : wc.ownsRow Bs.n 90 5 dv (st.pend.take kk).length dcells := by
    refine ⟨hO.1, hO.2.imp id ?_⟩
    rintro ⟨g, cap, cur, h1, h2, h3⟩
    exact ⟨g, cap, cur, h1, Nat.le_trans hhb h2, h3⟩
  have hOge : ∀ i, dv.ownBlock = some i → wb.heap.size ≤ i := fun i hi => own_base hO i hi
  have HWc := Lib.hid hWc
  have HFc := Lib.hid hFc
  have Hblkc := Lib.hid hblk
  have HO := Lib.hid hO'
  have HOp := Lib.hid hOp
  have HOge := Lib.hid hOge
  have y0 : wc.cell? ⟨w.heap.size, 0, none⟩ = some (.int .i64 keep) := (blk_cell Hblkc.out 0).trans rfl
  have y1 : wc.cell? ⟨w.heap.size, 1, none⟩ = some (.int .i64 torn) := (blk_cell Hblkc.out 1).trans rfl
  have z2 := HWc.out.blk.c2
  have Hlt : Hid (∀ i, S i → i < wb.heap.size) := Lib.hid fun i hi => HWb.out.lt hi
  have hbc := hb.size
  clear hWc hFc hblk hO hO' hOp hb hOge HR0 HWb HFb Hblkb
  have hmore : ∀ W v os, Below wb.heap.size wc W → U8 wc W → RdO W v os → (∀ i, v.ownBlock = some i → i ≠ d ∧ W.heap[i]?.any (fun o => match o with | .map .. => true | _ => false) = false) → st.kept keep torn = os →
      Calls Try.prog 44 #[.pointer (some ⟨d, 0, none⟩), v] W fun e w' => e = .returned (.tuple #[]) ∧ Res w w' d (st.lose keep torn) S := fun W v os hb hu h1 h2 h3 => by
    have hWW := HWc.out.move (fun i hi => hb.block i (Hlt.out i hi)) hu
    refine (settle_dev ⟨rd, rn, _, cells, hWW⟩ h1 h2 (by rw [← h3]; exact Hf.out)).mono ?_
    rintro e w' ⟨rfl, hR⟩
    have hF : Fr S w W := ⟨hb.os.trans HFc.out.os, hb.tape.trans HFc.out.tape, hb.output.trans HFc.out.output, Nat.le_trans HFc.out.size hb.size, fun i hi hn =>
      (hb.block i (Nat.lt_of_lt_of_le hi hwb)).trans (HFc.out.block i hi fun e => hn ((HWc.out.set i).2 (.inl e)))⟩
    refine ⟨rfl, Res.chain hF (fun i hi => .inl hi) ?_⟩
    rw [← h3] at hR
    exact hR
  have Hmore := Lib.hid hmore
  clear hmore
  by_cases hc : 0 ≤ keep ∧ kk < st.pend.length
  · obtain ⟨hc0, hclt⟩ := hc
    obtain ⟨g, rfl, hrg⟩ : ∃ g, A = some ⟨g, 0, none⟩ ∧ wc.rangeAt g 0 cells := by
      have h := HWc.out.own
      rcases h.2 with ⟨e, e0⟩ | ⟨g, cap, cur, e, _⟩
      · injection e with _ e1 _; omega
      · injection e with e1 _ _
        refine ⟨g, e1, fun j v hv => ?_⟩
        rw [Nat.zero_add, ← add_plain]
        exact h.cells (g := g) (by rw [e1]; rfl) j v hv
    obtain ⟨v, hv, x0, x1, x2, x3, x4⟩ := op_cells HWc.out.ops hrg hclt
    have hke : st.pend[kk]? = some st.pend[kk] := List.getElem?_eq_getElem hclt
    have Hke := Lib.hid hke
    clear hke hrg
    generalize st.pend[kk] = o at *
    have Hv := Lib.hid hv
    obtain ⟨A3, c3, rfl, _⟩ := hv
    have x0' : wc.cell? ⟨g, kk * 5, none⟩ = some (.func (.func (FN o.kind)) #[] #[]) := x0
    clear x0
    by_cases ho : o.writes = true ∧ 0 ≤ torn
    · have hk : st.kept keep torn = st.pend.take kk ++ [o.cut torn] := by
        unfold DS.kept
        rw [Hkd.out, Hke.out]
        simp [hc0, ho]
      have Hk := Lib.hid hk
      obtain ⟨hw, ht0⟩ := ho
      rw [hw] at x4
      have htd : decide (0 ≤ torn) = true := by simpa using ht0
      have hmin : (if (o.b.length : Int) < torn then (o.b.length : Int) else torn) = ((min torn o.b.length).toNat : Int) := by split <;> omega
      have hml : (min torn (o.b.length : Int)).toNat ≤ o.b.length := by omega
      have hcut : o.cut torn = { o with b := o.b.take (min torn (o.b.length : Int)).toNat } := rfl
      generalize (min torn (o.b.length : Int)).toNat = m at *
      have Hcut := Lib.hid hcut
      have hmc : m ≤ c3 := by omega
      have Hw := Lib.hid hw
      have hst := fun W => run_store Try.prog W ⟨wc.heap.size, 0, none⟩ (Value.func (.func (FN o.kind)) #[] #[]) .plain rfl
      have hl1 : o.b.length ≤ c3 ∧ c3 ≤ 9223372036854775807 := by
        obtain ⟨a', c', e, h1, h2, _⟩ := Hv.out
        injection e with _ _ e
        subst e
        exact ⟨h1, h2⟩
      obtain ⟨hl1, hl2⟩ := hl1
      have hgw : w.heap.size < wc.heap.size := (Array.getElem?_eq_some_iff.1 Hblkc.out).1
      clear hk hw hcut
      have hB2 : Below wc.heap.size wc ((wc.alloc (.cells #[Value.func (.func (FN o.kind)) #[] #[], .string o.name, .string o.to, .slice A3 m c3, .bool true] 90)).alloc (.cells #[Value.func (.func (FN o.kind)) #[] #[], .string o.name, .string o.to, .slice A3 m c3, .bool true] 90)) :=
        ((Below.refl _ _).alloc (Nat.le_refl _) _).alloc (by simp) _
      have Ho1 := Lib.hid (own_block HO.out fun i hi => hB2.block i (own_lt HO.out hi))
      have hnew : ((wc.alloc (.cells #[Value.func (.func (FN o.kind)) #[] #[], .string o.name, .string o.to, .slice A3 m c3, .bool true] 90)).alloc (.cells #[Value.func (.func (FN o.kind)) #[] #[], .string o.name, .string o.to, .slice A3 m c3, .bool true] 90)).heap[wc.heap.size + 1]? = some (.cells #[Value.func (.func (FN o.kind)) #[] #[], .string o.name, .string o.to, .slice A3 m c3, .bool true] 90 (0, 0)) := by
        have := heap_alloc_new (wc.alloc (.cells #[Value.func (.func (FN o.kind)) #[] #[], .string o.name, .string o.to, .slice A3 m c3, .bool true] 90)) (.cells #[Value.func (.func (FN o.kind)) #[] #[], .string o.name, .string o.to, .slice A3 m c3, .bool true] 90)
        simpa using this
      have hrd : Rd wc (.slice A3 m c3) (o.cut torn).b := by rw [Hcut.out]; exact Hv.out.take m hml
      have Ho2 : Hid (RdO ((wc.alloc (.cells #[Value.func (.func (FN o.kind)) #[] #[], .string o.name, .string o.to, .slice A3 m c3, .bool true] 90)).alloc (.cells #[Value.func (.func (FN o.kind)) #[] #[], .string o.name, .string o.to, .slice A3 m c3, .bool true] 90)) (.slice (some ⟨wc.heap.size + 1, 0, none⟩) 1 1) [o.cut torn]) :=
        Lib.hid ⟨_, 1, [Value.func (.func (FN o.kind)) #[] #[], .string o.name, .string o.to, .slice A3 m c3, .bool true], rfl, Nat.le_refl _, by simp [maxLen], ⟨⟨by rw [Hcut.out]; rfl, by rw [Hcut.out], by rw [Hcut.out], U8.below hB2 _ _ hrd, by rw [Hcut.out]; exact congrArg Value.bool Hw.out.symm⟩, trivial⟩,
          .inr ⟨_, rfl, fun j u hu => by rw [Nat.zero_add, blk_cell hnew]; simpa using hu⟩⟩
      have Ho3 : Hid (Bs.n ≤ ((wc.alloc (.cells #[Value.func (.func (FN o.kind)) #[] #[], .string o.name, .string o.to, .slice A3 m c3, .bool true] 90)).alloc (.cells #[Value.func (.func (FN o.kind)) #[] #[], .string o.name, .string o.to, .slice A3 m c3, .bool true] 90)).heap.size) := Lib.hid (Nat.le_trans (Nat.le_trans hhb hbc) hB2.size)
      have HB2 := Lib.hid hB2
      clear hB2 hnew hrd
      go_wp2_with (at_builtin; refine wpList_append_op Bs.n rfl _ _ 75 rfl Try.underlying75 _ _ (st.pend.take kk).length dcells [o.cut torn] rfl rfl ?o1 ?o2 ?o3 ?o4 ?_; (case o1 => exact Ho1.out); (case o2 => exact Ho2.out); (case o3 => exact Ho3.out); (case o4 => rw [List.length_take]; simp; omega); intro cells1 v1 w1 hc1 ho1 hg1; have HC1 := Lib.hid hc1; have HO1 := Lib.hid ho1; have HG1 := Lib.hid hg1; clear hc1 ho1 hg1)
      have hu2 : U8 _ w1 := U8.of fun i hi h8 => HG1.out.block i hi fun e => own_no8 Ho1.out (show dv.ownBlock = some i from e.symm) h8
      have hown : w1.ownsRow Bs.n 90 5 v1 (st.pend.take kk ++ [o.cut torn]).length (dcells ++ cells1) := by
        rw [List.length_append]; exact HO1.out
      have hops : OpsR w1 (dcells ++ cells1) (st.pend.take kk ++ [o.cut torn]) := ((HOp.out.move (U8.below HB2.out)).app HC1.out).move hu2
      have hbl : Below wb.heap.size wc w1 := (HB2.out.mono hbc).grown HG1.out (Nat.le_trans hbc HB2.out.size) (fun i hi => HOge.out i (show dv.ownBlock = some i from hi))
      refine (Hmore.out _ _ _ hbl ((U8.below HB2.out).trans hu2) (RdO.own hown hops) (fun i hi => ⟨?_, own_any hown i hi⟩) Hk.out).mono ?_
      · intro e
        have hWW := HWc.out.move (fun i hi => hbl.block i (Hlt.out i hi)) ((U8.below HB2.out).trans hu2)
        rcases own_ne_dev hWW.blk hown with h1 | h1
        · rw [h1] at hi; cases hi
        · exact h1 (by rw [hi, e])
      rintro e wd ⟨rfl, hR⟩
      have HR := Lib.hid hR
      clear hR y0 y1 z2
      go_wp2
      go_end0
      exact ⟨rfl, HR.out⟩
    · have hk : st.kept keep torn = st.pend.take kk := by
        unfold DS.kept
        rw [Hkd.out, Hke.out]
        have : ¬ (0 ≤ keep ∧ o.writes = true ∧ 0 ≤ torn) := fun h => ho h.2
        simp [this]
      have Hk := Lib.hid hk
      clear hk
      cases hw : o.writes with
      | false =>
        rw [hw] at x4
        clear ho hw
        go_wp2_with fail
        refine (Hmore.out _ _ _ ((Below.refl _ _).mono hbc) (U8.refl _) (RdO.own HO.out HOp.out) (fun i hi => ⟨?_, own_any HO.out i hi⟩) Hk.out).mono ?_
        · have := HOge.out i hi; omega
        rintro e wd ⟨rfl, hR⟩
        have HR := Lib.hid hR
        clear hR y0 y1 z2
        go_wp2
        go_end0
        exact ⟨rfl, HR.out⟩
      | true =>
        have htn : ¬ 0 ≤ torn := fun h => ho ⟨hw, h⟩
        have htd : decide (0 ≤ torn) = false := by simpa using htn
        rw [hw] at x4
        clear ho hw
        go_wp2_with fail
        refine (Hmore.out _ _ _ ((Below.refl _ _).mono hbc) (U8.refl _) (RdO.own HO.out HOp.out) (fun i hi => ⟨?_, own_any HO.out i hi⟩) Hk.out).mono ?_
        · have := HOge.out i hi; omega
        rintro e wd ⟨rfl, hR⟩
        have HR := Lib.hid hR
        clear hR y0 y1 z2
        go_wp2
        go_end0
        exact ⟨rfl, HR.out⟩
  · have hk : st.kept keep torn = st.pend.take kk := by
      unfold DS.kept
      rw [Hkd.out]
      by_cases h1 : 0 ≤ keep
      · have h2 : ¬ kk < st.pend.length := fun h => hc ⟨h1, h⟩
        rw [List.getElem?_eq_none (by omega)]; simp
      · cases st.pend[kk]? with
        | none => simp
        | some o => simp [h1]
    have Hk := Lib.hid hk
    clear hk
    by_cases h1 : 0 ≤ keep
    · have hle : ¬ kk < st.pend.length := fun h => hc ⟨h1, h⟩
      have hle' : st.pend.length ≤ kk := by omega
      clear hc
      go_wp2_with fail
      refine (Hmore.out _ _ _ ((Below.refl _ _).mono hbc) (U8.refl _) (RdO.own HO.out HOp.out) (fun i hi => ⟨?_, own_any HO.out i hi⟩) Hk.out).mono ?_
      · have := HOge.out i hi; omega
      rintro e wd ⟨rfl, hR⟩
      have HR := Lib.hid hR
      clear hR y0 y1 z2
      go_wp2
      go_end0
      exact ⟨rfl, HR.out⟩
    · clear hc
      have hd0 : decide (0 ≤ keep) = false := by simpa using h1
      go_wp2_with fail
      refine (Hmore.out _ _ _ ((Below.refl _ _).mono hbc) (U8.refl _) (RdO.own HO.out HOp.out) (fun i hi => ⟨?_, own_any HO.out i hi⟩) Hk.out).mono ?_
      · have := HOge.out i hi; omega
      rintro e wd ⟨rfl, hR⟩
      have HR := Lib.hid hR
      clear hR y0 y1 z2
      go_wp2
      go_end0
      exact ⟨rfl, HR.out⟩
end Go.Proofs.Ytalnhdeckdakfaa.Dev
