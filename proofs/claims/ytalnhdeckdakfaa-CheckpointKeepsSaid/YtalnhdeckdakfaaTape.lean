/-
  The tape's functions: Next, Bytes.
-/
import Derived.Test.YtalnhdeckdakfaaSep
namespace Go.Proofs.Ytalnhdeckdakfaa.Dev
open Go.RowKit Go.Proofs
set_option linter.unusedVariables false
set_option linter.unusedSectionVars false
set_option linter.unusedSimpArgs false
variable [Bs]

theorem tval_range {xs : List Int} {n : Nat} (hx : ∀ x ∈ xs, -9223372036854775808 ≤ x ∧ x ≤ 9223372036854775807) : -9223372036854775808 ≤ tval xs n ∧ tval xs n ≤ 9223372036854775807 := by
  unfold tval
  split
  · next h =>
    have e : xs.getD n 0 = xs[n] := by simp [List.getD_eq_getElem?_getD, List.getElem?_eq_getElem h]
    rw [e]
    exact hx _ (List.getElem_mem h)
  · have h1 := Int.tmod_lt_of_pos ((n : Int) * 7) (show (0 : Int) < 11 by omega)
    have h2 := Int.tmod_nonneg 11 (show (0 : Int) ≤ (n : Int) * 7 by omega)
    omega
set_option maxHeartbeats 1000000 in
set_option maxRecDepth 20000 in
theorem next_calls {w00 w : World} {t i : Nat} {xs : List Int} {S : Nat → Prop} (h : TapeO w00 t xs i w S) (hl : Below Bs.n w00 w) (hi : i ≤ 1000000000) (n : Int) (hn : n ≤ 9223372036854775807) :
    Calls Try.prog 13 #[.pointer (some ⟨t, 0, none⟩), .int .i64 n] w fun e w' => e = .returned (.int .i64 (tnext xs i n)) ∧ Step w w' (TapeO w00 t xs (i + 1)) S := by
  have H := Lib.hid h
  obtain ⟨lv, hb, hx, hB, hS⟩ := h
  have Hx := Lib.hid hx
  obtain ⟨A, c, rfl, hlen, hrange, hcells⟩ := hx
  have x0 : w.cell? ⟨t, 0, none⟩ = some (.slice A xs.length c) := (blk_cell hb 0).trans rfl
  have x1 : w.cell? ⟨t, 1, none⟩ = some (.int .i64 i) := (blk_cell hb 1).trans rfl
  have f1 := blk_frozen hb 1
  have Hv := Lib.hid (tval_range (n := i) hrange)
  have hfin : ∀ q, Step w ((w.drewN q).setCell ⟨t, 1, none⟩ (.int .i64 ((i : Int) + 1))) (TapeO w00 t xs (i + 1)) S := fun q => by
    have h1 : Fr S w ((w.drewN q).setCell ⟨t, 1, none⟩ (.int .i64 ((i : Int) + 1))) := (Fr.drewN q).trans (Fr.setCell ((hS t).2 rfl) _)
    refine ⟨S, ⟨_, ?_, Hx.out, hB, hS⟩, h1, fun i hi => .inl hi⟩
    have h2 : (w.drewN q).heap[t]? = some (.cells #[.slice A xs.length c, .int .i64 i] 25 (0, 0)) := hb
    exact set_blk h2 _
  have Hfin := Lib.hid hfin
  have hmod : ((i : Int) * 7).tmod 11 = ((i : Int) * 7).tmod 11 := rfl
  by_cases hlt : i < xs.length
  · obtain ⟨ad, rfl, hc, hbl⟩ := hcells i hlt
    obtain ⟨b, off, spot⟩ := ad
    have hspot : spot = none := by
      obtain ⟨ad0, e0, hc0, _⟩ := hcells 0 (by omega)
      injection e0 with e0
      subst e0
      have hz := World.cell?_spot hc0
      simpa [Addr.add] using hz
    subst hspot
    have hc' : w.cell? ⟨b, off + i, none⟩ = some (.int .i64 (xs.getD i 0)) := by
      have e : w.heap[b]? = w00.heap[b]? := hl.block b hbl
      rw [Addr.add_mid] at hc
      exact (World.cell?_of_block e).trans hc
    have hv : tval xs i = xs.getD i 0 := by simp [tval, hlt]
    rw [hv] at Hv
    have hd : decide ((i : Int) < (xs.length : Int)) = true := by simp; omega
    have Htn : Hid (tnext xs i n = fold (xs.getD i 0) n) := Lib.hid (by rw [tnext, hv])
    generalize xs.getD i 0 = x at *
    generalize tnext xs i n = r at *
    clear hcells hrange H hb hl hfin hS hv
    go_enter Try.func13, Try.ntmps13
    go_wp2
    go_quiet (fail)
    go_wp2_with fail
    go_quiet (fail)
    go_wp2_with fail
    refine (fold_calls _ Hv.out hn).mono ?_
    rintro e _ ⟨rfl, rfl⟩
    rw [← Htn.out]
    go_wp2
    go_ret
    exact ⟨rfl, Hfin.out _⟩
  · have hd : decide ((i : Int) < (xs.length : Int)) = false := by simp; omega
    have hge : xs.length ≤ i := by omega
    have e0 : ((i : Int) * 7).tmod 11 = (i : Int) * 7 % 11 := by
      rw [Int.tmod_eq_emod_of_nonneg (by omega)]
    have hv : tval xs i = (i : Int) * 7 % 11 := by simp [tval, hlt, e0]
    rw [hv] at Hv
    have Htn : Hid (tnext xs i n = fold ((i : Int) * 7 % 11) n) := Lib.hid (by rw [tnext, hv])
    generalize tnext xs i n = r at *
    clear hcells hrange H hb hl hfin hS hv e0 hmod
    go_enter Try.func13, Try.ntmps13
    go_wp2
    go_quiet (fail)
    go_wp2_with fail
    refine (fold_calls _ Hv.out hn).mono ?_
    rintro e _ ⟨rfl, rfl⟩
    rw [← Htn.out]
    go_wp2
    go_ret
    exact ⟨rfl, Hfin.out _⟩

theorem TapeO.set {w00 w : World} {t i : Nat} {xs : List Int} {S S' : Nat → Prop} (h : TapeO w00 t xs i w S') (hs : ∀ i, S i ↔ i = t) : TapeO w00 t xs i w S := by
  obtain ⟨lv, h1, h2, h3, _⟩ := h
  exact ⟨lv, h1, h2, h3, hs⟩
theorem TapeO.keep {w00 w w' : World} {t i : Nat} {xs : List Int} {S : Nat → Prop} (h : TapeO w00 t xs i w S) (hb : w'.heap[t]? = w.heap[t]?) : TapeO w00 t xs i w' S := by
  obtain ⟨lv, h1, h2, h3, h4⟩ := h
  exact ⟨lv, hb.trans h1, h2, h3, h4⟩
theorem TapeO.iff {w00 w : World} {t i : Nat} {xs : List Int} {S : Nat → Prop} (h : TapeO w00 t xs i w S) : ∀ i, S i ↔ i = t := by
  obtain ⟨lv, h1, h2, h3, h4⟩ := h
  exact h4
theorem TapeO.lt {w00 w : World} {t i : Nat} {xs : List Int} {S : Nat → Prop} (h : TapeO w00 t xs i w S) : t < w.heap.size := by
  obtain ⟨lv, h1, _⟩ := h
  exact (Array.getElem?_eq_some_iff.1 h1).1
/-- elder blocks stay -/
theorem TapeO.old {w00 w w' : World} {t i : Nat} {xs : List Int} {S : Nat → Prop} (h : TapeO w00 t xs i w S) (hl : Below Bs.n w00 w) (hq : Bs.n ≤ w00.heap.size) (hf : Fr S w w') : Below Bs.n w00 w' := by
  refine ⟨hf.os.trans hl.os, hf.tape.trans hl.tape, hf.output.trans hl.output, Nat.le_trans hl.size hf.size, fun j hj => ?_⟩
  rw [hf.block j (Nat.lt_of_lt_of_le hj (Nat.le_trans hq hl.size)) fun e => by have := (stable_tape w00 t xs i).ge h e; omega]
  exact hl.block j hj
/-- Next, in the form in which the callers go on -/
theorem next_go {w00 w : World} {t i : Nat} {xs : List Int} {S : Nat → Prop} (h : TapeO w00 t xs i w S) (hl : Below Bs.n w00 w) (hq : Bs.n ≤ w00.heap.size) (hi : i ≤ 1000000000) (n : Int) (hn : n ≤ 9223372036854775807) :
    Calls Try.prog 13 #[.pointer (some ⟨t, 0, none⟩), .int .i64 n] w fun e w' => e = .returned (.int .i64 (tnext xs i n)) ∧ TapeO w00 t xs (i + 1) w' S ∧ Fr S w w' ∧ U8 w w' ∧ Below Bs.n w00 w' := by
  refine (next_calls h hl hi n hn).mono ?_
  rintro e w' ⟨rfl, S', h1, h2, _⟩
  exact ⟨rfl, h1.set h.iff, h2, h2.u8 fun i hi => (stable_tape w00 t xs _).no8 h hi, h.old hl hq h2⟩

def tbytes (xs : List Int) (i n : Nat) (k : Int) : List Int := (List.range n).map fun j => tnext xs (i + j) k
theorem tbytes_succ (xs : List Int) (i n : Nat) (k : Int) : tbytes xs i (n + 1) k = tbytes xs i n k ++ [tnext xs (i + n) k] := by simp [tbytes, List.range_succ]
theorem tbytes_len (xs : List Int) (i n : Nat) (k : Int) : (tbytes xs i n k).length = n := by simp [tbytes]
theorem tnext_range (xs : List Int) (i : Nat) {k : Int} (hk : 1 ≤ k) : 0 ≤ tnext xs i k ∧ tnext xs i k < k := fold_range _ hk

set_option maxHeartbeats 1000000 in
set_option maxRecDepth 20000 in
theorem bytes_calls {w00 w : World} {t i : Nat} {xs : List Int} {S : Nat → Prop} (h : TapeO w00 t xs i w S) (hl : Below Bs.n w00 w) (hq : Bs.n ≤ w00.heap.size) (hi : i ≤ 900000000) (n : Nat) (hn : n ≤ 1000000) (k : Int) (hk : 1 ≤ k ∧ k ≤ 256) :
    Calls Try.prog 14 #[.pointer (some ⟨t, 0, none⟩), .int .i64 n, .int .i64 k] w fun e w' => ∃ v, e = .returned v ∧ w'.ownsRow w.heap.size 5 1 v n (u8s (tbytes xs i n k)) ∧ TapeO w00 t xs (i + n) w' S ∧ Fr S w w' ∧ U8 w w' ∧ Below Bs.n w00 w' := by
  have H := Lib.hid h
  have Hl := Lib.hid hl
  obtain ⟨i0, hi0, hzz⟩ := Option.map_eq_some_iff.1 info5
  simp only [Prod.mk.injEq] at hzz
  obtain ⟨hz0, hz1, hz2⟩ := hzz
  have hmk := run_make (P := Try.prog) w 32 5 i0 _ Try.underlying32 hi0 hz0 .i64 .i64 0 (n : Int) (by omega) (by omega) (by rw [hz2]; omega) (by omega)
  rw [hz1] at hmk
  simp only [Int.toNat_natCast, Int.toNat_zero, Nat.mul_one] at hmk
  change (Instr.makeSlice 32 (.int .i64 0) (.int .i64 (n : Int))).run Try.prog w = .ok (.slice (some ⟨w.heap.size, 0, none⟩) 0 n) (w.alloc (.cells (madeCells #[Value.int .u8 0] n) 5)) at hmk
  have ho := World.ownsRow_made (base := w.heap.size) (e := 5) (size := 1) w (madeCells #[Value.int .u8 0] n) n (Nat.le_refl _) (by simp only [maxLen]; omega) (by simp [madeCells])
  have HO := Lib.hid ho
  have hb0 : Below w.heap.size w (w.alloc (.cells (madeCells #[Value.int .u8 0] n) 5)) := (Below.refl _ _).alloc (Nat.le_refl _) _
  have HB0 := Lib.hid hb0
  have hmax : (if (n : Int) < 0 then (0 : Int) else (n : Int)) = n := by split <;> omega
  clear h hl hi0 hz0 hz1 hz2 ho hb0
  have hiff := H.out.iff
  have hlt := H.out.lt
  go_enter Try.func14, Try.ntmps14
  go_wp2
  clear hmk hmax
  go_loopw [7, 8] (fun v j wr => ∃ q : Nat, q ≤ n ∧ j = .int .i64 q ∧ wr.ownsRow w.heap.size 5 1 v (tbytes xs i q k).length (u8s (tbytes xs i q k)) ∧ TapeO w00 t xs (i + q) wr S ∧ Fr S w wr ∧ Below Bs.n w00 wr ∧ Bs.n ≤ w.heap.size) (fun _ j _ => n - (intOf j).toNat)
  case atStart =>
    have hF : Fr S w (w.alloc (.cells (madeCells #[Value.int .u8 0] n) 5)) := Fr.below HB0.out
    exact ⟨0, Nat.zero_le _, rfl, by simpa [tbytes, u8s] using HO.out, ((stable_tape w00 t xs i).move H.out (fun j hj => HB0.out.block j (by have := (hiff j).1 hj; omega)) (U8.below HB0.out)), hF, H.out.old Hl.out hq hF, Nat.le_trans hq Hl.out.size⟩
  case round =>
    obtain ⟨q, hqn, rfl, ho, ht, hF, hB, hbs⟩ := hrel
    have HO2 := Lib.hid ho
    have HT2 := Lib.hid ht
    have HF2 := Lib.hid hF
    have HB2 := Lib.hid hB
    obtain ⟨A2, c2, he2⟩ := own_form ho
    subst he2
    clear ho ht hF hB
    by_cases hlt2 : q < n
    · have Hr := Lib.hid (tnext_range xs (i + q) hk.1)
      have Hsucc := Lib.hid (tbytes_succ xs i q k)
      have Hlen := Lib.hid (tbytes_len xs i q k)
      go_wp2_with fail
      refine (next_go HT2.out HB2.out hq (by omega) k (by omega)).mono ?_
      rintro e w1 ⟨rfl, ht, hF, hu, hB⟩
      have hrow : w1.ownsRow w.heap.size 5 1 (.slice A2 (tbytes xs i q k).length c2) (tbytes xs i q k).length (u8s (tbytes xs i q k)) := own_fr hF HO2.out (fun j hj e => by
        have h1 := own_base HO2.out j hj
        have h2 := (hiff j).1 e
        omega)
      have HR1 := Lib.hid hrow
      have HT1 := Lib.hid ht
      have HF1 := Lib.hid (HF2.out.trans hF)
      have HB1 := Lib.hid hB
      clear ht hF hu hB hrow HO2 HT2 HF2 HB2
      obtain ⟨hr0, hr1⟩ := Hr.out
      generalize tnext xs (i + q) k = x at *
      generalize tbytes xs i q k = bs at *
      have hx : IntKind.wrap .u8 x = x := by rw [IntKind.wrap_u8]; omega
      have hB1 : Below w1.heap.size w1 (w1.alloc (.cells #[Value.int .u8 x] 5)) := (Below.refl _ _).alloc (Nat.le_refl _) _
      have HA1 := Lib.hid (own_block HR1.out fun j hj => hB1.block j (own_lt HR1.out hj))
      have HX1 : Hid (Rd (w1.alloc (.cells #[Value.int .u8 x] 5)) (.slice (some ⟨w1.heap.size, 0, none⟩) 1 1) [x]) := Lib.hid (rd_lit (heap_alloc_new w1 _) rfl rfl (by omega))
      have hsz1 : w.heap.size ≤ (w1.alloc (.cells #[Value.int .u8 x] 5)).heap.size := Nat.le_trans HF1.out.size hB1.size
      have HSZ := Lib.hid hsz1
      have HB3 := Lib.hid hB1
      clear hB1 hsz1
      go_wp2_with (at_builtin; refine wpList_append_rd w.heap.size rfl _ _ 32 5 rfl Try.underlying32 info5 _ _ bs [x] rfl rfl HA1.out HX1.out HSZ.out (by rw [Hlen.out]; simp; omega) ?_; intro v5 w5 ho5 hg5; have HO5 := Lib.hid ho5; have HG5 := Lib.hid hg5; clear ho5 hg5)
      have hbw : Below w.heap.size w1 w5 := (HB3.out.mono HF1.out.size).grown HG5.out HSZ.out (fun j hj => own_base HA1.out j hj)
      have hF5 : Fr S w w5 := ⟨hbw.os.trans HF1.out.os, hbw.tape.trans HF1.out.tape, hbw.output.trans HF1.out.output, Nat.le_trans HF1.out.size hbw.size, fun j hj hn => (hbw.block j hj).trans (HF1.out.block j hj hn)⟩
      refine ⟨⟨q + 1, by omega, by go_num, by rw [Hsucc.out]; exact HO5.out, HT1.out.keep (hbw.block t hlt), hF5, H.out.old Hl.out hq hF5, hbs⟩, by simp [intOf]; omega⟩
    · have hqe : q = n := by omega
      subst hqe
      go_wp2
      go_ret
      have Hlen := Lib.hid (tbytes_len xs i q k)
      refine ⟨_, rfl, ?_, HT2.out, HF2.out, HF2.out.u8 fun j hj => (stable_tape w00 t xs _).no8 H.out hj, HB2.out⟩
      have h := HO2.out
      rw [Hlen.out] at h ⊢
      exact h
end Go.Proofs.Ytalnhdeckdakfaa.Dev
