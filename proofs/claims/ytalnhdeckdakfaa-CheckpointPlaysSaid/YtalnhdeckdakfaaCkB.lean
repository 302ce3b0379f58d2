/-
  checkpoint: decode.
-/
import Derived.Test.YtalnhdeckdakfaaCkA
import Derived.Deep.RegionHeld3
namespace Go.Proofs.Ytalnhdeckdakfaa.Dev
open Go.RowKit Go.Proofs Co
set_option linter.unusedVariables false
set_option linter.unusedSectionVars false
set_option linter.unusedSimpArgs false
variable [Bs]

theorem bclone_calls {w : World} {v : Value} {xs : List Int} (h : Rd w v xs) (hl : xs.length ≤ 140737488355328) :
    Calls Try.prog 46 #[v] w fun e w' => ∃ v1, e = .returned v1 ∧ w'.ownsRow w.heap.size 5 1 v1 xs.length (u8s xs) ∧ Below w.heap.size w w' := by
  obtain ⟨A, c, rfl, h1, h2, hc⟩ := h
  rcases A with _ | ad
  · have h0 : xs = [] := by
      cases xs with
      | nil => rfl
      | cons y ys => obtain ⟨ad, h, _⟩ := hc 0 (by simp); cases h
    subst h0
    have hnil := Lib.run_eql_slice_nil (P := Try.prog) w 32 5 none 0 c 0 0 Try.underlying32
    go_enter Try.func46, Try.ntmps46
    go_wp2
    go_ret
    exact ⟨_, rfl, own_nil _ _ _ _, Below.refl _ _⟩
  · have hnil := Lib.run_eql_slice_nil (P := Try.prog) w 32 5 (some ad) xs.length c 0 0 Try.underlying32
    have hR : Rd w (.slice (some ad) xs.length c) xs := ⟨_, c, rfl, h1, h2, hc⟩
    have HR := Lib.hid hR
    clear hc hR
    go_enter Try.func46, Try.ntmps46
    go_wp2_with (at_builtin; refine wpList_append_rd w.heap.size rfl _ _ 32 5 rfl Try.underlying32 info5 _ _ [] xs rfl rfl ?o1 ?o2 ?o3 ?o4 ?_; (case o1 => exact World.ownsRow_lit w #[] 0 (Nat.le_refl _) (by simp [maxLen]) rfl); (case o2 => exact U8.below ((Below.refl _ _).alloc (Nat.le_refl _) _) _ _ HR.out); (case o3 => simp); (case o4 => simpa using hl); intro v1 w1 ho hg; have HO := Lib.hid ho; have HG := Lib.hid hg; clear ho hg)
    go_ret
    refine ⟨_, rfl, by simpa using HO.out, ?_⟩
    refine ((Below.refl _ _).alloc (Nat.le_refl _) _).grown HG.out (by simp) (fun k hk => ?_)
    have hk' : some w.heap.size = some k := hk
    injection hk' with hk'
    omega

theorem dec_set {w W : World} {v0 v1 : Value} (h : W.cell? ⟨w.heap.size + 1, 0, none⟩ = some v0 ∧ W.cell? ⟨w.heap.size + 1, 1, none⟩ = some v1 ∧ Below w.heap.size w W) (i : Nat) (v : Value) (_ : True) :
    (W.setCell ⟨w.heap.size, i, none⟩ v).cell? ⟨w.heap.size + 1, 0, none⟩ = some v0 ∧ (W.setCell ⟨w.heap.size, i, none⟩ v).cell? ⟨w.heap.size + 1, 1, none⟩ = some v1 ∧ Below w.heap.size w (W.setCell ⟨w.heap.size, i, none⟩ v) := by
  have e : ∀ j, (W.setCell ⟨w.heap.size, i, none⟩ v).cell? ⟨w.heap.size + 1, j, none⟩ = W.cell? ⟨w.heap.size + 1, j, none⟩ := fun j => World.cell?_setCell_other _ _ _ _ (by intro h; injection h with h; omega)
  exact ⟨(e 0).trans h.1, (e 1).trans h.2.1, Below.setCell h.2.2 (Nat.le_refl _) _⟩
abbrev set3W (W : World) (g : Nat) (a b c : Value) : World := ((W.setCell ⟨g, 0, none⟩ a).setCell ⟨g, 1, none⟩ b).setCell ⟨g, 2, none⟩ c
theorem set3 {W : World} {g : Nat} {a b c : Value} (hg : W.heap[g]? = some (.cells #[a, b, c] 81 (0, 0))) (hB : Bs.n ≤ g) (a' b' c' : Value) :
    (set3W W g a' b' c').heap[g]? = some (.cells #[a', b', c'] 81 (0, 0)) ∧ (∀ i, i ≠ g → (set3W W g a' b' c').heap[i]? = W.heap[i]?) ∧ U8 W (set3W W g a' b' c') ∧ ∀ n w, n ≤ g → Below n w W → Below n w (set3W W g a' b' c') := by
  have f0 := heap_setCell_same W g 0 _ _ a' hg
  have f1 := heap_setCell_same _ g 1 _ _ b' f0
  have f2 := heap_setCell_same _ g 2 _ _ c' f1
  have hno8 : ¬ Own8 W g := by
    rintro (h | ⟨cs, fr, h⟩)
    · omega
    · rw [hg] at h; injection h with h; injection h with _ h; exact absurd h (by decide)
  have ho : ∀ i, i ≠ g → (set3W W g a' b' c').heap[i]? = W.heap[i]? := fun i hi => by
    rw [heap_setCell_other _ _ _ _ hi, heap_setCell_other _ _ _ _ hi, heap_setCell_other _ _ _ _ hi]
  exact ⟨f2, ho, U8.but g hno8 fun i _ hi => ho i hi, fun n w hn h => ((h.setCell (p := ⟨g, 0, none⟩) hn _).setCell (p := ⟨g, 1, none⟩) hn _).setCell (p := ⟨g, 2, none⟩) hn _⟩
/-- what decode returns -/
def DecQ (w : World) (c : CP) (e : Ending) (w' : World) : Prop := ∃ v, e = .returned (.agg #[.int .i64 c.turn, .int .i64 c.pos, v]) ∧ Rd w' v c.st ∧ Below w.heap.size w w'
theorem drop_rd {w : World} {A : Option Addr} {n c : Nat} {xs : List Int} (h : Rd w (.slice A n c) xs) (k : Nat) (hk : k ≤ n) : Rd w (.slice (if k = c then A else A.map (·.add k)) (n - k) (c - k)) (xs.drop k) := by
  obtain ⟨a, c', he, h1, h2, h3⟩ := h
  injection he with e1 e2 e3
  subst e1 e2 e3
  refine ⟨_, c - k, by rw [List.length_drop], by rw [List.length_drop]; omega, by omega, fun i hi => ?_⟩
  have hi' : k + i < xs.length := by rw [List.length_drop] at hi; omega
  obtain ⟨ad, rfl, h5, h6⟩ := h3 (k + i) hi'
  have hkc : ¬ k = c := by omega
  refine ⟨ad.add k, by simp [hkc], ?_, by rw [add_block]; exact h6⟩
  rw [Addr.add_add, h5]
  simp [List.getD_eq_getElem?_getD, List.getElem?_drop]

theorem dec_zero {w W : World} (h : Below w.heap.size w W) : DecQ w CP.zero (.returned (.agg #[.int .i64 0, .int .i64 0, .slice none 0 0])) (((W.setCell ⟨w.heap.size, 0, none⟩ (.int .i64 0)).setCell ⟨w.heap.size, 1, none⟩ (.int .i64 0)).setCell ⟨w.heap.size, 2, none⟩ (.slice none 0 0)) :=
  ⟨.slice none 0 0, rfl, ⟨none, 0, rfl, Nat.le_refl _, by omega, fun i hi => absurd hi (by simp [CP.zero])⟩, ((h.setCell (p := ⟨w.heap.size, 0, none⟩) (Nat.le_refl _) _).setCell (p := ⟨w.heap.size, 1, none⟩) (Nat.le_refl _) _).setCell (p := ⟨w.heap.size, 2, none⟩) (Nat.le_refl _) _⟩

set_option maxHeartbeats 4000000 in
set_option maxRecDepth 100000 in
theorem decode_calls {w : World} {v : Value} {xs : List Int} (hv : Rd w v xs) (hb : ∀ x ∈ xs, 0 ≤ x ∧ x < 256) (hl : xs.length ≤ 100000000) (hB : Bs.n ≤ w.heap.size) :
    Calls Try.prog 55 #[v] w fun e w' => DecQ w (CP.dec xs) e w' := by
  have HR := Lib.hid hv
  have Hby := Lib.hid hb
  obtain ⟨A, cc, rfl, hcc, hcc2, _⟩ := hv
  have hb0 : Below w.heap.size w ((w.alloc (.cells #[.int .i64 0, .int .i64 0, .slice none 0 0] 81)).alloc (.cells #[.int .i64 0, .int .i64 0, .int .i64 0] 118)) := ((Below.refl _ _).alloc (Nat.le_refl _) _).alloc (by simp) _
  have hh0 := heap_alloc_new (w.alloc (.cells #[.int .i64 0, .int .i64 0, .slice none 0 0] 81)) (.cells #[.int .i64 0, .int .i64 0, .int .i64 0] 118)
  have hr0 := blk_below (heap_alloc_new w (.cells #[.int .i64 0, .int .i64 0, .slice none 0 0] 81)) ((Below.refl _ _).alloc (Nat.le_refl _) (.cells #[.int .i64 0, .int .i64 0, .int .i64 0] 118))
  have hsz : (w.alloc (.cells #[.int .i64 0, .int .i64 0, .slice none 0 0] 81)).heap.size = w.heap.size + 1 := by simp
  rw [hsz] at hh0
  clear hb
  have HB := Lib.hid hb0
  have Hh := Lib.hid hh0
  clear hb0 hh0
  go_enter Try.func55, Try.ntmps55
  go_wp2
  refine wp_loop_rounds 4 ?_
  rw [rounds_succ]
  generalize ((w.alloc (.cells #[.int .i64 0, .int .i64 0, .slice none 0 0] 81)).alloc (.cells #[.int .i64 0, .int .i64 0, .int .i64 0] 118)) = W0 at *
  have r0 := (blk_cell hr0 0).trans (show _ = some (Value.int .i64 0) from rfl)
  have r1 := (blk_cell hr0 1).trans (show _ = some (Value.int .i64 0) from rfl)
  have r2 := (blk_cell hr0 2).trans (show _ = some (Value.slice none 0 0) from rfl)
  have f0 := blk_frozen hr0 0
  have f1 := blk_frozen hr0 1
  have f2 := blk_frozen hr0 2
  have Hr := Lib.hid hr0
  clear hr0 hsz
  have hc := (blk_cell Hh.out 0).trans (show _ = some (Value.int .i64 0) from rfl)
  have hf := blk_frozen Hh.out 0
  go_wp2_with fail
  refine (uint_calls (U8.below HB.out _ _ HR.out) Hby.out 0 (Nat.zero_le _)).mono ?_
  rintro e _ ⟨rfl, rfl⟩
  rw [show xs.drop 0 = xs from rfl]
  have hle := uget_le (xs) 0 0
  generalize hq : uget (xs) 0 0 = q at *
  obtain ⟨v0, n0, e0⟩ := q
  have Q0 := Lib.hid hq
  clear hq
  simp only [ures]
  by_cases he : e0 = 0
  rotate_left
  · have B : badU (v0, n0, e0) := .inl he
    have hed : (e0 != 0) = true := by rw [bne_iff_ne]; exact he
    simp only [if_neg he]
    have hz : CP.dec xs = CP.zero := dec_bad0 Q0.out B
    have HZ := Lib.hid hz
    clear hz
    go_wp2
    refine bodyPost_ret (v := .agg #[.int .i64 0, .int .i64 0, .slice none 0 0]) ?_ rfl (by rw [HZ.out]; exact dec_zero HB.out)
    have hres : Try.f55.results = #[.cell 2 81] := by kernel_rfl
    simp only [results, hres]
    go_simp
  subst he
  simp only [if_true] at hle ⊢
  generalize hA : 0 + n0 = a1 at *
  have HA1 := Lib.hid hA
  have ha1 : a1 ≤ xs.length := by
    have := hle trivial
    try simp only [List.length_drop] at this
    omega
  clear hA hle
  by_cases hv : 4611686018427387904 < v0
  · have B : badU (v0, n0, 0) := .inr hv
    have hvd : (4611686018427387904 : Int) < (v0 : Int) := by omega
    have hz : CP.dec xs = CP.zero := dec_bad0 Q0.out B
    have HZ := Lib.hid hz
    clear hz
    go_wp2
    refine bodyPost_ret (v := .agg #[.int .i64 0, .int .i64 0, .slice none 0 0]) ?_ rfl (by rw [HZ.out]; exact dec_zero HB.out)
    have hres : Try.f55.results = #[.cell 2 81] := by kernel_rfl
    simp only [results, hres]
    go_simp
  have G0 : ¬ badU (v0, n0, 0) := by
    rintro (h | h)
    · exact h rfl
    · exact hv h
  have hvd : ¬ (4611686018427387904 : Int) < (v0 : Int) := by omega
  have hw : IntKind.i64.wrap (v0 : Int) = (v0 : Int) := by rw [IntKind.wrap_i64]; omega
  have hh1 := heap_setCell_same _ (w.heap.size + 1) 0 _ _ (.int .i64 v0) Hh.out
  have hr1 := (heap_setCell_other W0 ⟨w.heap.size + 1, 0, none⟩ w.heap.size (.int .i64 v0) (by simp)).trans Hr.out
  have hb1 := HB.out.setCell (p := ⟨w.heap.size + 1, 0, none⟩) (by simp) (.int .i64 v0)
  go_wp2
  generalize W0.setCell ⟨w.heap.size + 1, 0, none⟩ (.int .i64 v0) = W1 at *
  clear hc hf hvd hw r0 r1 r2 f0 f1 f2 HB Hh Hr
  have HB := Lib.hid hb1
  have Hh := Lib.hid hh1
  have Hr := Lib.hid hr1
  have r0 := (blk_cell hr1 0).trans (show _ = some (Value.int .i64 0) from rfl)
  have r1 := (blk_cell hr1 1).trans (show _ = some (Value.int .i64 0) from rfl)
  have r2 := (blk_cell hr1 2).trans (show _ = some (Value.slice none 0 0) from rfl)
  have f0 := blk_frozen hr1 0
  have f1 := blk_frozen hr1 1
  have f2 := blk_frozen hr1 2
  clear hh1 hr1 hb1
  rw [rounds_succ]
  have hc := (blk_cell Hh.out 1).trans (show _ = some (Value.int .i64 0) from rfl)
  have hf := blk_frozen Hh.out 1
  go_wp2_with fail
  refine (uint_calls (U8.below HB.out _ _ HR.out) Hby.out a1 ha1).mono ?_
  rintro e _ ⟨rfl, rfl⟩
  rw [show xs.drop a1 = xs.drop a1 from rfl]
  have hle := uget_le (xs.drop a1) 0 0
  generalize hq : uget (xs.drop a1) 0 0 = q at *
  obtain ⟨v1, n1, e1⟩ := q
  have Q1 := Lib.hid hq
  clear hq
  simp only [ures]
  by_cases he : e1 = 0
  rotate_left
  · have B : badU (v1, n1, e1) := .inl he
    have hed : (e1 != 0) = true := by rw [bne_iff_ne]; exact he
    simp only [if_neg he]
    have hz : CP.dec xs = CP.zero := dec_bad1 Q0.out G0 HA1.out Q1.out B
    have HZ := Lib.hid hz
    clear hz
    go_wp2
    refine bodyPost_ret (v := .agg #[.int .i64 0, .int .i64 0, .slice none 0 0]) ?_ rfl (by rw [HZ.out]; exact dec_zero HB.out)
    have hres : Try.f55.results = #[.cell 2 81] := by kernel_rfl
    simp only [results, hres]
    go_simp
  subst he
  simp only [if_true] at hle ⊢
  generalize hA : a1 + n1 = a2 at *
  have HA2 := Lib.hid hA
  have ha2 : a2 ≤ xs.length := by
    have := hle trivial
    try simp only [List.length_drop] at this
    omega
  clear hA hle
  by_cases hv : 4611686018427387904 < v1
  · have B : badU (v1, n1, 0) := .inr hv
    have hvd : (4611686018427387904 : Int) < (v1 : Int) := by omega
    have hz : CP.dec xs = CP.zero := dec_bad1 Q0.out G0 HA1.out Q1.out B
    have HZ := Lib.hid hz
    clear hz
    go_wp2
    refine bodyPost_ret (v := .agg #[.int .i64 0, .int .i64 0, .slice none 0 0]) ?_ rfl (by rw [HZ.out]; exact dec_zero HB.out)
    have hres : Try.f55.results = #[.cell 2 81] := by kernel_rfl
    simp only [results, hres]
    go_simp
  have G1 : ¬ badU (v1, n1, 0) := by
    rintro (h | h)
    · exact h rfl
    · exact hv h
  have hvd : ¬ (4611686018427387904 : Int) < (v1 : Int) := by omega
  have hw : IntKind.i64.wrap (v1 : Int) = (v1 : Int) := by rw [IntKind.wrap_i64]; omega
  have hh1 := heap_setCell_same _ (w.heap.size + 1) 1 _ _ (.int .i64 v1) Hh.out
  have hr1 := (heap_setCell_other W1 ⟨w.heap.size + 1, 1, none⟩ w.heap.size (.int .i64 v1) (by simp)).trans Hr.out
  have hb1 := HB.out.setCell (p := ⟨w.heap.size + 1, 1, none⟩) (by simp) (.int .i64 v1)
  go_wp2
  generalize W1.setCell ⟨w.heap.size + 1, 1, none⟩ (.int .i64 v1) = W2 at *
  clear hc hf hvd hw r0 r1 r2 f0 f1 f2 HB Hh Hr
  have HB := Lib.hid hb1
  have Hh := Lib.hid hh1
  have Hr := Lib.hid hr1
  have r0 := (blk_cell hr1 0).trans (show _ = some (Value.int .i64 0) from rfl)
  have r1 := (blk_cell hr1 1).trans (show _ = some (Value.int .i64 0) from rfl)
  have r2 := (blk_cell hr1 2).trans (show _ = some (Value.slice none 0 0) from rfl)
  have f0 := blk_frozen hr1 0
  have f1 := blk_frozen hr1 1
  have f2 := blk_frozen hr1 2
  clear hh1 hr1 hb1
  rw [rounds_succ]
  have hc := (blk_cell Hh.out 2).trans (show _ = some (Value.int .i64 0) from rfl)
  have hf := blk_frozen Hh.out 2
  go_wp2_with fail
  refine (uint_calls (U8.below HB.out _ _ HR.out) Hby.out a2 ha2).mono ?_
  rintro e _ ⟨rfl, rfl⟩
  rw [show xs.drop a2 = xs.drop a2 from rfl]
  have hle := uget_le (xs.drop a2) 0 0
  generalize hq : uget (xs.drop a2) 0 0 = q at *
  obtain ⟨v2, n2, e2⟩ := q
  have Q2 := Lib.hid hq
  clear hq
  simp only [ures]
  by_cases he : e2 = 0
  rotate_left
  · have B : badU (v2, n2, e2) := .inl he
    have hed : (e2 != 0) = true := by rw [bne_iff_ne]; exact he
    simp only [if_neg he]
    have hz : CP.dec xs = CP.zero := dec_bad2 Q0.out G0 HA1.out Q1.out G1 HA2.out Q2.out B
    have HZ := Lib.hid hz
    clear hz
    go_wp2
    refine bodyPost_ret (v := .agg #[.int .i64 0, .int .i64 0, .slice none 0 0]) ?_ rfl (by rw [HZ.out]; exact dec_zero HB.out)
    have hres : Try.f55.results = #[.cell 2 81] := by kernel_rfl
    simp only [results, hres]
    go_simp
  subst he
  simp only [if_true] at hle ⊢
  generalize hA : a2 + n2 = a3 at *
  have HA3 := Lib.hid hA
  have ha3 : a3 ≤ xs.length := by
    have := hle trivial
    try simp only [List.length_drop] at this
    omega
  clear hA hle
  by_cases hv : 4611686018427387904 < v2
  · have B : badU (v2, n2, 0) := .inr hv
    have hvd : (4611686018427387904 : Int) < (v2 : Int) := by omega
    have hz : CP.dec xs = CP.zero := dec_bad2 Q0.out G0 HA1.out Q1.out G1 HA2.out Q2.out B
    have HZ := Lib.hid hz
    clear hz
    go_wp2
    refine bodyPost_ret (v := .agg #[.int .i64 0, .int .i64 0, .slice none 0 0]) ?_ rfl (by rw [HZ.out]; exact dec_zero HB.out)
    have hres : Try.f55.results = #[.cell 2 81] := by kernel_rfl
    simp only [results, hres]
    go_simp
  have G2 : ¬ badU (v2, n2, 0) := by
    rintro (h | h)
    · exact h rfl
    · exact hv h
  have hvd : ¬ (4611686018427387904 : Int) < (v2 : Int) := by omega
  have hw : IntKind.i64.wrap (v2 : Int) = (v2 : Int) := by rw [IntKind.wrap_i64]; omega
  have hh1 := heap_setCell_same _ (w.heap.size + 1) 2 _ _ (.int .i64 v2) Hh.out
  have hr1 := (heap_setCell_other W2 ⟨w.heap.size + 1, 2, none⟩ w.heap.size (.int .i64 v2) (by simp)).trans Hr.out
  have hb1 := HB.out.setCell (p := ⟨w.heap.size + 1, 2, none⟩) (by simp) (.int .i64 v2)
  go_wp2
  generalize W2.setCell ⟨w.heap.size + 1, 2, none⟩ (.int .i64 v2) = W3 at *
  clear hc hf hvd hw r0 r1 r2 f0 f1 f2 HB Hh Hr
  have HB := Lib.hid hb1
  have Hh := Lib.hid hh1
  have Hr := Lib.hid hr1
  have r0 := (blk_cell hr1 0).trans (show _ = some (Value.int .i64 0) from rfl)
  have r1 := (blk_cell hr1 1).trans (show _ = some (Value.int .i64 0) from rfl)
  have r2 := (blk_cell hr1 2).trans (show _ = some (Value.slice none 0 0) from rfl)
  have f0 := blk_frozen hr1 0
  have f1 := blk_frozen hr1 1
  have f2 := blk_frozen hr1 2
  clear hh1 hr1 hb1
  rw [rounds_succ]
  have c0 := (blk_cell Hh.out 0).trans (show _ = some (Value.int .i64 v0) from rfl)
  have c1 := (blk_cell Hh.out 1).trans (show _ = some (Value.int .i64 v1) from rfl)
  have c2 := (blk_cell Hh.out 2).trans (show _ = some (Value.int .i64 v2) from rfl)
  have hd := dec_len Q0.out G0 HA1.out Q1.out G1 HA2.out Q2.out G2 HA3.out
  have hsub : (xs.length : Int) - (a3 : Int) = ((xs.length - a3 : Nat) : Int) := by omega
  by_cases hlen : v2 = xs.length - a3
  rotate_left
  · have hne : ((v2 : Int) != (xs.length : Int) - (a3 : Int)) = true := by rw [bne_iff_ne]; omega
    have hz : CP.dec xs = CP.zero := by rw [hd, if_neg hlen]
    have HZ := Lib.hid hz
    clear hz
    go_wp2
    refine bodyPost_ret (v := .agg #[.int .i64 0, .int .i64 0, .slice none 0 0]) ?_ rfl (by rw [HZ.out]; exact dec_zero HB.out)
    have hres : Try.f55.results = #[.cell 2 81] := by kernel_rfl
    simp only [results, hres]
    go_simp
  have hne : ((v2 : Int) != (xs.length : Int) - (a3 : Int)) = false := by rw [bne_eq_false_iff_eq]; omega
  rw [if_pos hlen] at hd
  have HD := Lib.hid hd
  clear hd
  obtain ⟨ad, rfl⟩ : ∃ ad, A = some ad := by
    rcases A with _ | ad
    · exfalso
      have h0 : xs = [] := by
        obtain ⟨a, c, he, _, _, h3⟩ := HR.out
        injection he with e1 e2 e3
        subst e1
        cases xs with
        | nil => rfl
        | cons y ys => obtain ⟨ad, h, _⟩ := h3 0 (by simp); cases h
      have h1 := Q0.out
      rw [h0] at h1
      simp [uget] at h1
    · exact ⟨ad, rfl⟩
  have hdrop := drop_rd HR.out a3 ha3
  have HB3 := HB.out.drew
  have HHd : W3.drew.heap[w.heap.size + 1]? = _ := Hh.out
  have HRd : W3.drew.heap[w.heap.size]? = _ := Hr.out
  have hS0 : W3.drew.cell? ⟨w.heap.size + 1, 0, none⟩ = some (.int .i64 v0) ∧ W3.drew.cell? ⟨w.heap.size + 1, 1, none⟩ = some (.int .i64 v1) ∧ Below w.heap.size w W3.drew := ⟨c0, c1, HB3⟩
  have hlx : (xs.drop a3).length ≤ 140737488355328 := by rw [List.length_drop]; omega
  have Hlx := Lib.hid hlx
  clear hlx
  by_cases hca : cc = a3
  · rw [if_pos hca.symm] at hdrop
    have hd1 : xs.length - a3 = 0 := by omega
    have hd2 : cc - a3 = 0 := by omega
    rw [hd1, hd2] at hdrop
    have hca1 : xs.length = a3 := by omega
    have Hdr := Lib.hid hdrop
    clear hdrop r0 r1 r2 f0 f1 f2 c0 c1 HB3
    go_wp2
    go_region_held3 (fun w' => w'.cell? ⟨w.heap.size + 1, 0, none⟩ = some (.int .i64 v0) ∧ w'.cell? ⟨w.heap.size + 1, 1, none⟩ = some (.int .i64 v1) ∧ Below w.heap.size w w')
      (first | assumption | exact dec_set (dec_set (dec_set hS1 _ _ trivial) _ _ trivial) _ _ trivial)
      (first
        | (go_at_call 46; have hSc := (show _ ∧ _ ∧ Below w.heap.size w _ by assumption); refine (bclone_calls (U8.below hSc.2.2 _ _ Hdr.out) Hlx.out).mono ?_; rintro e wc ⟨u, rfl, ho, hb⟩; obtain ⟨D, fD, hu⟩ := own_form ho; subst hu; have hS1 : wc.cell? ⟨w.heap.size + 1, 0, none⟩ = some (.int .i64 v0) ∧ wc.cell? ⟨w.heap.size + 1, 1, none⟩ = some (.int .i64 v1) ∧ Below w.heap.size w wc := ⟨cell_of_below hb hSc.1, cell_of_below hb hSc.2.1, below_trans hSc.2.2 hb⟩; have hr3 := blk_below HRd hb; have g0 := (blk_cell hr3 0).trans (show _ = some (Value.int .i64 0) from rfl); have g1 := (blk_cell hr3 1).trans (show _ = some (Value.int .i64 0) from rfl); have g2 := (blk_cell hr3 2).trans (show _ = some (Value.slice none 0 0) from rfl); have k0 := blk_frozen hr3 0; have k1 := blk_frozen hr3 1; have k2 := blk_frozen hr3 2; have HRo := Lib.hid (Rd.own ho); have HR3 := Lib.hid hr3; have hS1' := hS1.2.2; clear ho hb hr3 hSc))
    obtain ⟨e1, e2, e3, e4⟩ := set3 HR3.out hB (.int .i64 v0) (.int .i64 v1) (.slice D 0 fD)
    have q0 := (blk_cell e1 0).trans (show _ = some (Value.int .i64 v0) from rfl)
    have q1 := (blk_cell e1 1).trans (show _ = some (Value.int .i64 v1) from rfl)
    have q2 := (blk_cell e1 2).trans (show _ = some (Value.slice D 0 fD) from rfl)
    have HQ : Hid (DecQ w (CP.dec xs) (.returned (.agg #[.int .i64 v0, .int .i64 v1, .slice D 0 fD])) (set3W wc w.heap.size (.int .i64 v0) (.int .i64 v1) (.slice D 0 fD))) := by
      refine Lib.hid ?_
      rw [HD.out]
      refine ⟨_, rfl, e3 _ _ ?_, e4 _ _ (Nat.le_refl _) hS1'⟩
      have hro := HRo.out
      rw [List.length_drop, hd1] at hro
      exact hro
    clear e2 e3 e4 HRo
    go_wp2
    refine bodyPost_ret (v := .agg #[.int .i64 v0, .int .i64 v1, .slice D 0 fD]) ?_ rfl HQ.out
    have hres : Try.f55.results = #[.cell 2 81] := by kernel_rfl
    simp only [results, hres]
    go_simp
  · rw [if_neg (fun e => hca e.symm)] at hdrop
    have hca2 : a3 ≠ cc := fun e => hca e.symm
    have hca3 : a3 ≤ cc := by omega
    simp only [Option.map_some] at hdrop
    have Hdr := Lib.hid hdrop
    clear hdrop r0 r1 r2 f0 f1 f2 c0 c1 HB3
    go_wp2
    go_region_held3 (fun w' => w'.cell? ⟨w.heap.size + 1, 0, none⟩ = some (.int .i64 v0) ∧ w'.cell? ⟨w.heap.size + 1, 1, none⟩ = some (.int .i64 v1) ∧ Below w.heap.size w w')
      (first | assumption | exact dec_set (dec_set (dec_set hS1 _ _ trivial) _ _ trivial) _ _ trivial)
      (first
        | (go_at_call 46; have hSc := (show _ ∧ _ ∧ Below w.heap.size w _ by assumption); refine (bclone_calls (U8.below hSc.2.2 _ _ Hdr.out) Hlx.out).mono ?_; rintro e wc ⟨u, rfl, ho, hb⟩; obtain ⟨D, fD, hu⟩ := own_form ho; subst hu; have hS1 : wc.cell? ⟨w.heap.size + 1, 0, none⟩ = some (.int .i64 v0) ∧ wc.cell? ⟨w.heap.size + 1, 1, none⟩ = some (.int .i64 v1) ∧ Below w.heap.size w wc := ⟨cell_of_below hb hSc.1, cell_of_below hb hSc.2.1, below_trans hSc.2.2 hb⟩; have hr3 := blk_below HRd hb; have g0 := (blk_cell hr3 0).trans (show _ = some (Value.int .i64 0) from rfl); have g1 := (blk_cell hr3 1).trans (show _ = some (Value.int .i64 0) from rfl); have g2 := (blk_cell hr3 2).trans (show _ = some (Value.slice none 0 0) from rfl); have k0 := blk_frozen hr3 0; have k1 := blk_frozen hr3 1; have k2 := blk_frozen hr3 2; have HRo := Lib.hid (Rd.own ho); have HR3 := Lib.hid hr3; have hS1' := hS1.2.2; clear ho hb hr3 hSc))
    obtain ⟨e1, e2, e3, e4⟩ := set3 HR3.out hB (.int .i64 v0) (.int .i64 v1) (.slice D (xs.length - a3) fD)
    have q0 := (blk_cell e1 0).trans (show _ = some (Value.int .i64 v0) from rfl)
    have q1 := (blk_cell e1 1).trans (show _ = some (Value.int .i64 v1) from rfl)
    have q2 := (blk_cell e1 2).trans (show _ = some (Value.slice D (xs.length - a3) fD) from rfl)
    have HQ : Hid (DecQ w (CP.dec xs) (.returned (.agg #[.int .i64 v0, .int .i64 v1, .slice D (xs.length - a3) fD])) (set3W wc w.heap.size (.int .i64 v0) (.int .i64 v1) (.slice D (xs.length - a3) fD))) := by
      refine Lib.hid ?_
      rw [HD.out]
      refine ⟨_, rfl, e3 _ _ ?_, e4 _ _ (Nat.le_refl _) hS1'⟩
      have hro := HRo.out
      rw [List.length_drop] at hro
      exact hro
    clear e2 e3 e4 HRo
    go_wp2
    refine bodyPost_ret (v := .agg #[.int .i64 v0, .int .i64 v1, .slice D (xs.length - a3) fD]) ?_ rfl HQ.out
    have hres : Try.f55.results = #[.cell 2 81] := by kernel_rfl
    simp only [results, hres]
    go_simp
end Go.Proofs.Ytalnhdeckdakfaa.Dev
