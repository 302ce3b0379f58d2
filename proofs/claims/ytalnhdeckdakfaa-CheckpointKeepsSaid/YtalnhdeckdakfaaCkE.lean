/-
  checkpoint: Save.
-/
import Derived.Test.YtalnhdeckdakfaaCkD
import Derived.Defers
namespace Go.Proofs.Ytalnhdeckdakfaa.Dev
open Go.RowKit Go.Proofs Co
set_option linter.unusedVariables false
set_option linter.unusedSectionVars false
set_option linter.unusedSimpArgs false
variable [Bs]

/-- what Save does -/
def saveD (st : DS) (k : ByteArray) (pos : Int) (b : List Int) : DS × Int :=
  if vname k = false then (st, 323)
  else if (newestD st k).2 ≠ 0 then (st, (newestD st k).2)
  else if pos < 0 ∨ pos < ((newestD st k).1.pos : Int) then (st, 321)
  else if 2097152 < b.length then (st, 320)
  else
    let r := st.create (cfile k ((newestD st k).1.turn + 1)) (CP.enc ⟨(newestD st k).1.turn + 1, pos.toNat, b⟩)
    if r.2 = 0 then r.1.sync else r

/-- the cells that stand while the file is written -/
abbrev CkS (gd gx : Nat) (p a b c : Value) (w : World) : Prop := w.cell? ⟨gd, 0, none⟩ = some p ∧ w.cell? ⟨gx, 0, none⟩ = some a ∧ w.cell? ⟨gx, 1, none⟩ = some b ∧ w.cell? ⟨gx, 2, none⟩ = some c
theorem CkS.of {gd gx : Nat} {p a b c : Value} {w : World} (hd : w.heap[gd]? = some (.cells #[p] 26 (0, 0))) (hx : w.heap[gx]? = some (.cells #[a, b, c] 81 (0, 0))) : CkS gd gx p a b c w :=
  ⟨(blk_cell hd 0).trans rfl, (blk_cell hx 0).trans rfl, (blk_cell hx 1).trans rfl, (blk_cell hx 2).trans rfl⟩
theorem CkS.set {gd gx ge : Nat} {p a b c : Value} {w : World} (h : CkS gd gx p a b c w) (h1 : gd ≠ ge) (h2 : gx ≠ ge) (v : Value) : CkS gd gx p a b c (w.setCell ⟨ge, 0, none⟩ v) := by
  have e : ∀ i j, i ≠ ge → (w.setCell ⟨ge, 0, none⟩ v).cell? ⟨i, j, none⟩ = w.cell? ⟨i, j, none⟩ := fun i j hi => World.cell?_setCell_other _ _ _ _ (by intro h; injection h with h; exact hi h.symm)
  exact ⟨(e _ _ h1).trans h.1, (e _ _ h2).trans h.2.1, (e _ _ h2).trans h.2.2.1, (e _ _ h2).trans h.2.2.2⟩
theorem enc_len (c : CP) (h1 : c.turn < 18446744073709551616) (h2 : c.pos < 18446744073709551616) (h3 : c.st.length < 18446744073709551616) : c.enc.length ≤ 30 + c.st.length := by
  have a := putU_len10 h1
  have b := putU_len10 h2
  have d := putU_len10 h3
  unfold CP.enc
  simp only [List.length_append]
  omega
/-- behind the return: the Sync -/
def fin1 (st : DS) (er : Int) : DS × Int := if er = 0 then st.sync else (st, er)

set_option maxHeartbeats 4000000 in
set_option maxRecDepth 100000 in
theorem save1_d {w : World} {d gd ge : Nat} {st : DS} {S : Nat → Prop} {er : Int} (u : FrameMode) (h : DevI w d st S) (hf : Fuel st) (hfit : Fits st.dur st.pend) (cd : w.heap[gd]? = some (.cells #[.pointer (some ⟨d, 0, none⟩)] 26 (0, 0))) (ce : w.heap[ge]? = some (.cells #[.int .i64 er] 36 (0, 0)))
    (hnd : ¬ S gd) (hne : ¬ S ge) :
    CallsD Try.prog 38 #[.pointer (some ⟨ge, 0, none⟩), .pointer (some ⟨gd, 0, none⟩)] u w fun e u' w' => u' = u ∧ e = .returned (.tuple #[]) ∧ ∃ w1, Res w w1 d (fin1 st er).1 S ∧ (w' = w1 ∧ er ≠ 0 ∧ w1 = w ∨ w' = w1.setCell ⟨ge, 0, none⟩ (.int .i64 (fin1 st er).2) ∧ w1.heap[ge]? = some (.cells #[.int .i64 er] 36 (0, 0))) := by
  have HD := Lib.hid h
  have Hcd := Lib.hid cd
  have Hce := Lib.hid ce
  have c0 := (blk_cell ce 0).trans (show _ = some (Value.int .i64 er) from rfl)
  have p0 := (blk_cell cd 0).trans (show _ = some (Value.pointer (some ⟨d, 0, none⟩)) from rfl)
  clear h cd ce
  by_cases he : er = 0
  · subst he
    go_enter_d Try.func38, Try.ntmps38
    go_wp2_with fail
    refine (sync_dev HD.out hf hfit).mono ?_
    rintro e w1 ⟨rfl, hR⟩
    have hfr : w1.heap[ge]? = some (.cells #[.int .i64 0] 36 (0, 0)) := by
      obtain ⟨S', _, hF, _⟩ := hR
      exact (hF.block ge (Array.getElem?_eq_some_iff.1 Hce.out).1 hne).trans Hce.out
    have HR := Lib.hid hR
    have Hfr := Lib.hid hfr
    have c1 := (blk_cell hfr 0).trans (show _ = some (Value.int .i64 0) from rfl)
    have f1 := blk_frozen hfr 0
    clear hR hfr c0 p0
    go_wp2
    go_end0
    exact ⟨rfl, w1, by simpa [fin1] using HR.out, .inr ⟨by simp [fin1], Hfr.out⟩⟩
  · have hed : (er == 0) = false := by rw [beq_eq_false_iff_ne]; exact he
    go_enter_d Try.func38, Try.ntmps38
    go_wp2
    go_end0
    exact ⟨rfl, w, by simpa [fin1, he] using Res.stay HD.out (Below.refl _ _), .inl ⟨rfl, he, rfl⟩⟩

theorem save_keep {w w1 w2 : World} {d g : Nat} {st st' : DS} {S : Nat → Prop} {o : Obj} (h : DevI w d st S) (hR : Res w1 w2 d st' S) (hg : w1.heap[g]? = some o) (hw : w.heap.size ≤ g) : w2.heap[g]? = some o := by
  obtain ⟨S', _, hF, _⟩ := hR
  exact (hF.block g (Array.getElem?_eq_some_iff.1 hg).1 (fun e => by have := h.lt e; omega)).trans hg

theorem create_len (d : DS) (k : ByteArray) (b : List Int) : (d.create k b).1.pend.length ≤ d.pend.length + 1 := by
  unfold DS.create
  split
  · split
    · exact Nat.le_succ _
    · exact DS.perform_len _ _
  · exact Nat.le_succ _
/-- a word for a cell of the call's own beside a device -/
theorem dev_setCell {w : World} {d g : Nat} {st : DS} {S : Nat → Prop} {c : Value} {t : TypeId} (h : DevI w d st S) (hg : w.heap[g]? = some (.cells #[c] t (0, 0))) (ht : t ≠ 5) (hB : Bs.n ≤ g) (hn : ¬ S g) (v : Value) : DevI (w.setCell ⟨g, 0, none⟩ v) d st S := by
  have hno8 : ¬ Own8 w g := by
    rintro (h | ⟨cs, fr, h⟩)
    · omega
    · rw [hg] at h; injection h with h; injection h with _ h; exact ht h
  exact h.move (fun i hi => heap_setCell_other _ _ _ _ (fun e => hn (by subst e; exact hi))) (U8.but g hno8 fun i _ hi => heap_setCell_other _ _ _ _ hi)
theorem save_end {w wb wc w1 : World} {d ge : Nat} {st st2 : DS} {S S' : Nat → Prop} {er r2 : Int} (h0 : DevI w d st S) (hb : Below w.heap.size w wb) (hge : w.heap.size ≤ ge) (hgb : ge < wb.heap.size) (hB : Bs.n ≤ w.heap.size)
    (hF : Fr S wb wc) (hs : ∀ i, S' i → S i ∨ wb.heap.size ≤ i) (hR : Res (wc.setCell ⟨ge, 0, none⟩ (.int .i64 er)) w1 d st2 S') (hg1 : w1.heap[ge]? = some (.cells #[.int .i64 er] 36 (0, 0))) :
    Res w w1 d st2 S ∧ Res w (w1.setCell ⟨ge, 0, none⟩ (.int .i64 r2)) d st2 S := by
  obtain ⟨S2, k1, k2, k3⟩ := hR
  have hwc : (wc.setCell ⟨ge, 0, none⟩ (.int .i64 er)).heap.size = wc.heap.size := by simp [World.setCell]
  have hsz1 := hF.size
  have hsz0 := hb.size
  have hS' : ∀ i, S' i → S i ∨ w.heap.size ≤ i := fun i hi => (hs i hi).imp id fun e => by omega
  have hS2 : ∀ i, S2 i → S i ∨ w.heap.size ≤ i := fun i hi => (k3 i hi).elim (hS' i) fun e => .inr (by omega)
  have hn2 : ¬ S2 ge := fun e => by
    rcases k3 ge e with e | e
    · rcases hs ge e with e | e
      · have := h0.lt e; omega
      · omega
    · omega
  have hF1 : Fr (fun i => S i ∨ w.heap.size ≤ i) w w1 := (((Fr.below hb).trans (hF.mono fun i _ e => .inl e)).trans (Fr.setCell (S := fun i => S i ∨ w.heap.size ≤ i) (p := ⟨ge, 0, none⟩) (.inr hge) _)).trans (k2.mono fun i _ e => hS' i e)
  have hF2 : Fr S w w1 := hF1.mono fun i hi e => e.resolve_right (by omega)
  have hF3 : Fr S w (w1.setCell ⟨ge, 0, none⟩ (.int .i64 r2)) := (hF1.trans (Fr.setCell (S := fun i => S i ∨ w.heap.size ≤ i) (p := ⟨ge, 0, none⟩) (.inr hge) _)).mono fun i hi e => e.resolve_right (by omega)
  exact ⟨⟨S2, k1, hF2, hS2⟩, ⟨S2, dev_setCell k1 hg1 (by decide) (by omega) hn2 _, hF3, hS2⟩⟩

set_option maxHeartbeats 4000000 in
set_option maxRecDepth 100000 in
theorem save_dev {w : World} {d : Nat} {st : DS} {S : Nat → Prop} (h : DevI w d st S) (ok : st.Ok) (hn : st.pend.length ≤ 90000) (hbr : BR st.now) (k : ByteArray) (hk : k.size ≤ 9223372036854775807) (pos : Int) (hpos : pos < 4611686018427387904) {v : Value} {b : List Int} (hv : Rd w v b) (hl : b.length ≤ 100000000) (hB : Bs.n ≤ w.heap.size) :
    Calls Try.prog 16 #[.pointer (some ⟨d, 0, none⟩), .string k, .int .i64 pos, v] w fun e w' => e = .returned (.int .i64 (saveD st k pos b).2) ∧ Res w w' d (saveD st k pos b).1 S := by
  have HD := Lib.hid h
  have Hok := Lib.hid ok
  have Hbr := Lib.hid hbr
  have Hv := Lib.hid hv
  obtain ⟨VA, VC, rfl, _⟩ := hv
  clear h ok hbr
  have hmf : ∀ (fn : Fn) (first cap : Array Value) (w : World), (Instr.makeFunc fn first cap).run Try.prog w = .ok (.func fn first cap) w := fun _ _ _ _ => rfl
  have hb0 : Below w.heap.size w ((w.alloc (.cells #[.pointer (some ⟨d, 0, none⟩)] 26)).alloc (.cells #[.int .i64 0] 36)) := ((Below.refl _ _).alloc (Nat.le_refl _) _).alloc (by simp) _
  have he0 := heap_alloc_new (w.alloc (.cells #[.pointer (some ⟨d, 0, none⟩)] 26)) (.cells #[.int .i64 0] 36)
  have hd0 := blk_below (heap_alloc_new w (.cells #[.pointer (some ⟨d, 0, none⟩)] 26)) ((Below.refl _ _).alloc (Nat.le_refl _) (.cells #[.int .i64 0] 36))
  have hsz : (w.alloc (.cells #[.pointer (some ⟨d, 0, none⟩)] 26)).heap.size = w.heap.size + 1 := by simp
  rw [hsz] at he0
  have HB0 := Lib.hid hb0
  have He0 := Lib.hid he0
  have Hd0 := Lib.hid hd0
  clear hb0 he0 hd0 hsz
  cases hvn : vname k with
  | false =>
    have hz : saveD st k pos b = (st, 323) := by rw [saveD, if_pos hvn]
    have HZ := Lib.hid hz
    have Hvn := Lib.hid hvn
    clear hz hvn
    go_enter_defers Try.func16, Try.ntmps16
    go_wp2_with fail
    refine (sfValid_calls k _ hk).mono ?_
    rw [Hvn.out]
    rintro e w1 ⟨rfl, hb1⟩
    have Hb1 := Lib.hid (below_trans HB0.out hb1)
    have he1 := blk_below He0.out hb1
    have c1 := (blk_cell he1 0).trans (show _ = some (Value.int .i64 0) from rfl)
    have f1 := blk_frozen he1 0
    clear hb1 he1
    go_wp2
    have hres : Try.f16.results = #[.cell 8 36] := by kernel_rfl
    refine ⟨.int .i64 323, ?_, by rw [HZ.out], by rw [HZ.out]; exact Res.stay HD.out (Hb1.out.setCell (by simp) _)⟩
    simp only [results, hres]
    go_simp
  | true =>
    have Hvn := Lib.hid hvn
    have hks := vname_size hvn
    have Hnb := Lib.hid (newest_bound st k)
    have HZ : Hid (saveD st k pos b = if (newestD st k).2 ≠ 0 then (st, (newestD st k).2) else if pos < 0 ∨ pos < ((newestD st k).1.pos : Int) then (st, 321) else if 2097152 < b.length then (st, 320) else
        let r := st.create (cfile k ((newestD st k).1.turn + 1)) (CP.enc ⟨(newestD st k).1.turn + 1, pos.toNat, b⟩)
        if r.2 = 0 then r.1.sync else r) := Lib.hid (by rw [saveD, if_neg (by rw [hvn]; simp)])
    clear hvn
    go_enter_defers Try.func16, Try.ntmps16
    go_wp2_with fail
    refine (sfValid_calls k _ hk).mono ?_
    rw [Hvn.out]
    rintro e w1 ⟨rfl, hb1⟩
    have Hb1 := Lib.hid (below_trans HB0.out hb1)
    have He1 := Lib.hid (blk_below He0.out hb1)
    have hd1 := blk_below Hd0.out hb1
    have p1 := (blk_cell hd1 0).trans (show _ = some (Value.pointer (some ⟨d, 0, none⟩)) from rfl)
    have Hd1 := Lib.hid hd1
    clear hb1 hd1
    go_wp2_with fail
    clear p1
    refine (newest_dev (HD.out.below Hb1.out) Hok.out Hbr.out k (by omega) (Nat.le_trans hB Hb1.out.size)).mono ?_
    rintro e w2 ⟨vn, rfl, hvn2, hb2⟩
    generalize newestD st k = nd at *
    obtain ⟨⟨tn, ps, stt⟩, er⟩ := nd
    simp only at hvn2 HZ Hnb ⊢
    obtain ⟨NA, NC, rfl, _⟩ := hvn2
    have Hb2 := Lib.hid (below_trans Hb1.out hb2)
    have he2 := blk_below He1.out hb2
    have Hw2s : Hid (w.heap.size + 1 < w2.heap.size) := Lib.hid (Array.getElem?_eq_some_iff.1 he2).1
    have hd2 := blk_below Hd1.out hb2
    have hba : Below w2.heap.size w2 (w2.alloc (.cells #[.int .i64 tn, .int .i64 ps, .slice NA stt.length NC] 81)) := (Below.refl _ _).alloc (Nat.le_refl _) _
    have hs3 := heap_alloc_new w2 (.cells #[.int .i64 tn, .int .i64 ps, .slice NA stt.length NC] 81)
    have he3 := blk_below he2 hba
    have hd3 := blk_below hd2 hba
    have Hb3 := Lib.hid (below_trans Hb2.out hba)
    have hs4 := (heap_setCell_other (w2.alloc (.cells #[.int .i64 tn, .int .i64 ps, .slice NA stt.length NC] 81)) ⟨w.heap.size + 1, 0, none⟩ w2.heap.size (.int .i64 er) (by have := Hb2.out.size; have := (Array.getElem?_eq_some_iff.1 he2).1; simp; omega)).trans hs3
    have hd4 := (heap_setCell_other (w2.alloc (.cells #[.int .i64 tn, .int .i64 ps, .slice NA stt.length NC] 81)) ⟨w.heap.size + 1, 0, none⟩ w.heap.size (.int .i64 er) (by simp)).trans hd3
    have he4 := heap_setCell_same _ (w.heap.size + 1) 0 _ _ (.int .i64 er) he3
    have hb4 := Hb3.out.setCell (p := ⟨w.heap.size + 1, 0, none⟩) (by simp) (.int .i64 er)
    have e3 := (blk_cell he3 0).trans (show _ = some (Value.int .i64 0) from rfl)
    have fe3 := blk_frozen he3 0
    have Hb4 := Lib.hid hb4
    have He4 := Lib.hid he4
    have Hd4 := Lib.hid hd4
    have Hs4 := Lib.hid hs4
    clear hb2 he2 hd2 hba hs3 he3 hd3 hs4 hd4 he4 hb4 Hb3 He1 Hd1
    by_cases her : er = 0
    · subst her
      have e4 := (blk_cell He4.out 0).trans (show _ = some (Value.int .i64 0) from rfl)
      have fe4 := blk_frozen He4.out 0
      have x0 := (blk_cell Hs4.out 0).trans (show _ = some (Value.int .i64 tn) from rfl)
      have x1 := (blk_cell Hs4.out 1).trans (show _ = some (Value.int .i64 ps) from rfl)
      have x2 := (blk_cell Hs4.out 2).trans (show _ = some (Value.slice NA stt.length NC) from rfl)
      by_cases hp0 : pos < 0
      · have hz : saveD st k pos b = (st, 321) := by rw [HZ.out, if_neg (by simp), if_pos (.inl hp0)]
        have HZ2 := Lib.hid hz
        clear hz
        go_wp2
        have hres : Try.f16.results = #[.cell 8 36] := by kernel_rfl
        refine ⟨.int .i64 321, ?_, by rw [HZ2.out], by rw [HZ2.out]; exact Res.stay HD.out (Hb4.out.setCell (by simp) _)⟩
        simp only [results, hres]
        go_simp
        
      by_cases hp1 : pos < (ps : Int)
      · have hz : saveD st k pos b = (st, 321) := by rw [HZ.out, if_neg (by simp), if_pos (.inr hp1)]
        have HZ2 := Lib.hid hz
        clear hz
        go_wp2
        have hres : Try.f16.results = #[.cell 8 36] := by kernel_rfl
        refine ⟨.int .i64 321, ?_, by rw [HZ2.out], by rw [HZ2.out]; exact Res.stay HD.out (Hb4.out.setCell (by simp) _)⟩
        simp only [results, hres]
        go_simp
        
      have hpn : ¬ (pos < 0 ∨ pos < (ps : Int)) := by omega
      by_cases hlb : 2097152 < b.length
      · have hlbd : (2097152 : Int) < (b.length : Int) := by omega
        have hz : saveD st k pos b = (st, 320) := by rw [HZ.out, if_neg (by simp), if_neg hpn, if_pos hlb]
        have HZ2 := Lib.hid hz
        clear hz
        go_wp2
        have hres : Try.f16.results = #[.cell 8 36] := by kernel_rfl
        refine ⟨.int .i64 320, ?_, by rw [HZ2.out], by rw [HZ2.out]; exact Res.stay HD.out (Hb4.out.setCell (by simp) _)⟩
        simp only [results, hres]
        go_simp
        
      have hlbd : ¬ (2097152 : Int) < (b.length : Int) := by omega
      have hz : saveD st k pos b = (let r := st.create (cfile k (tn + 1)) (CP.enc ⟨tn + 1, pos.toNat, b⟩); if r.2 = 0 then r.1.sync else r) := by
        rw [HZ.out, if_neg (by simp), if_neg hpn, if_neg hlb]
      have HZ2 := Lib.hid hz
      obtain ⟨pn, hpn2⟩ : ∃ n : Nat, pos = (n : Int) := ⟨pos.toNat, by omega⟩
      clear hz HZ
      subst hpn2
      have htn : tn ≤ 4611686018427387904 := Hnb.out.1
      have hcf : ∀ W : World, Calls Try.prog 41 #[.string k, .int .i64 ((tn : Int) + 1)] W fun e w' => e = .returned (.string (cfile k (tn + 1))) ∧ Below W.heap.size W w' := fun W => cpfile_calls W k (tn + 1) (by omega) (by omega)
      have hce : ∀ W : World, Rd W (.slice VA b.length VC) b → Calls Try.prog 42 #[.agg #[.int .i64 ((tn : Int) + 1), .int .i64 pn, .slice VA b.length VC]] W fun e w' => ∃ v1, e = .returned v1 ∧ w'.ownsRow W.heap.size 5 1 v1 (CP.enc ⟨tn + 1, pn, b⟩).length (u8s (CP.enc ⟨tn + 1, pn, b⟩)) ∧ Below W.heap.size W w' := fun W hW => encode_calls ⟨tn + 1, pn, b⟩ hW (by show tn + 1 < _; omega) (by show pn < _; omega) hl
      have Hcf := Lib.hid hcf
      have Hce := Lib.hid hce
      have hszx : ((w2.alloc (.cells #[.int .i64 tn, .int .i64 ps, .slice NA stt.length NC] 81)).setCell ⟨w.heap.size + 1, 0, none⟩ (.int .i64 0)).heap.size = w2.heap.size + 1 := by simp [World.setCell]
      have hx5 := heap_alloc_new ((w2.alloc (.cells #[.int .i64 tn, .int .i64 ps, .slice NA stt.length NC] 81)).setCell ⟨w.heap.size + 1, 0, none⟩ (.int .i64 0)) (.cells #[.int .i64 ((tn : Int) + 1), .int .i64 pn, .slice VA b.length VC] 81)
      rw [hszx] at hx5
      have hba5 : Below _ _ (((w2.alloc (.cells #[.int .i64 tn, .int .i64 ps, .slice NA stt.length NC] 81)).setCell ⟨w.heap.size + 1, 0, none⟩ (.int .i64 0)).alloc (.cells #[.int .i64 ((tn : Int) + 1), .int .i64 pn, .slice VA b.length VC] 81)) := (Below.refl _ ((w2.alloc (.cells #[.int .i64 tn, .int .i64 ps, .slice NA stt.length NC] 81)).setCell ⟨w.heap.size + 1, 0, none⟩ (.int .i64 0))).alloc (Nat.le_refl _) _
      have hd5 := blk_below Hd4.out hba5
      have he5 := blk_below He4.out hba5
      have Hb5 := Lib.hid (below_trans Hb4.out hba5)
      have Hx5 := Lib.hid hx5
      have Hd5 := Lib.hid hd5
      have He5 := Lib.hid he5
      have hw2 := Hb2.out.size
      clear hcf hce hx5 hba5 hd5 he5 hszx
      have henc := enc_len ⟨tn + 1, pn, b⟩ (by show tn + 1 < _; omega) (by show pn < _; omega) (by show b.length < _; omega)
      go_wp2
      generalize (((w2.alloc (.cells #[.int .i64 tn, .int .i64 ps, .slice NA stt.length NC] 81)).setCell ⟨w.heap.size + 1, 0, none⟩ (.int .i64 0)).alloc (.cells #[.int .i64 ((tn : Int) + 1), .int .i64 pn, .slice VA b.length VC] 81)) = W5 at *
      have Hb6 := Lib.hid (Hb5.out.drew)
      have Hd6 : Hid (W5.drew.heap[w.heap.size]? = some (.cells #[.pointer (some ⟨d, 0, none⟩)] 26 (0, 0))) := Lib.hid Hd5.out
      have He6 : Hid (W5.drew.heap[w.heap.size + 1]? = some (.cells #[.int .i64 0] 36 (0, 0))) := Lib.hid He5.out
      have Hx6 : Hid (W5.drew.heap[w2.heap.size + 1]? = some (.cells #[.int .i64 ((tn : Int) + 1), .int .i64 pn, .slice VA b.length VC] 81 (0, 0))) := Lib.hid Hx5.out
      have hS0 := CkS.of Hd6.out Hx6.out
      have hne1 : w.heap.size ≠ w.heap.size + 1 := by omega
      have hne2 : w2.heap.size + 1 ≠ w.heap.size + 1 := by have := Hw2s.out; omega
      clear x0 x1 x2 e4 fe4 e3 fe3
      go_region_held3 (fun w' => w'.cell? ⟨w.heap.size, 0, none⟩ = some (.pointer (some ⟨d, 0, none⟩)) ∧ w'.cell? ⟨w2.heap.size + 1, 0, none⟩ = some (.int .i64 ((tn : Int) + 1)) ∧ w'.cell? ⟨w2.heap.size + 1, 1, none⟩ = some (.int .i64 pn) ∧ w'.cell? ⟨w2.heap.size + 1, 2, none⟩ = some (.slice VA b.length VC))
        (first | exact hS0 | assumption | exact CkS.set (by assumption) hne1 hne2 _)
        (first
          | (go_at_call 41; refine (Hcf.out _).mono ?_; rintro e wa ⟨rfl, hb⟩; have Hb7 := Lib.hid (below_trans Hb6.out hb); have Hd7 := Lib.hid (blk_below Hd6.out hb); have He7 := Lib.hid (blk_below He6.out hb); have Hx7 := Lib.hid (blk_below Hx6.out hb); have hS1 := CkS.of Hd7.out Hx7.out; clear hb)
          | (go_at_call 42; refine (Hce.out _ (U8.below Hb7.out _ _ Hv.out)).mono ?_; rintro e wb ⟨v1, rfl, ho, hb⟩; obtain ⟨EA, EC, hv1⟩ := own_form ho; subst hv1; have Hb8 := Lib.hid (below_trans Hb7.out hb); have Hd8 := Lib.hid (blk_below Hd7.out hb); have He8 := Lib.hid (blk_below He7.out hb); have Hx8 := Lib.hid (blk_below Hx7.out hb); have hS2 := CkS.of Hd8.out Hx8.out; have Hr8 := Lib.hid (Rd.own ho); clear ho hb)
          | (go_at_call 40; refine (create_dev (HD.out.below Hb8.out) (Hok.out.fuel (by omega)) (cfile k (tn + 1)) Hr8.out (by rw [cfile_size]; omega) (Nat.le_trans henc (by show 30 + b.length ≤ _; omega)) (Hok.out.bnow.get _) (by have := Hok.out.bnow.n; omega)).mono ?_; rintro e wc ⟨rfl, hR⟩; have HR := Lib.hid hR; have Hd9 := Lib.hid (save_keep HD.out hR Hd8.out (Nat.le_refl _)); have He9 := Lib.hid (save_keep HD.out hR He8.out (by omega)); have Hx9 := Lib.hid (save_keep HD.out hR Hx8.out (by omega)); have hS3 := CkS.of Hd9.out Hx9.out; have g9 := (blk_cell He9.out 0).trans (show _ = some (Value.int .i64 0) from rfl); have fg9 := blk_frozen He9.out 0; clear hR))
      go_wp2
      have He10 := heap_setCell_same wc (w.heap.size + 1) 0 _ _ (.int .i64 (st.create (cfile k (tn + 1)) (CP.enc ⟨tn + 1, pn, b⟩)).2) He9.out
      have Hd10 := (heap_setCell_other wc ⟨w.heap.size + 1, 0, none⟩ w.heap.size (.int .i64 (st.create (cfile k (tn + 1)) (CP.enc ⟨tn + 1, pn, b⟩)).2) (by simp)).trans Hd9.out
      have hres : Try.f16.results = #[.cell 8 36] := by kernel_rfl
      have hcr := Hok.out.create (cfile k (tn + 1)) (CP.enc ⟨tn + 1, pn, b⟩)
      have hcl := create_len st (cfile k (tn + 1)) (CP.enc ⟨tn + 1, pn, b⟩)
      have hz2 := HZ2.out
      obtain ⟨S', hdev, hFr, hss⟩ := HR.out
      rw [show (pn : Int).toNat = pn from Int.toNat_natCast pn] at hz2
      generalize st.create (cfile k (tn + 1)) (CP.enc ⟨tn + 1, pn, b⟩) = rr at *
      obtain ⟨st1, er⟩ := rr
      simp only at hcr hcl hz2 hdev He10 Hd10 ⊢
      have hgeb : w.heap.size + 1 < wb.heap.size := (Array.getElem?_eq_some_iff.1 He8.out).1
      have hgdb : w.heap.size < wb.heap.size := by omega
      have hnge : ¬ S' (w.heap.size + 1) := fun e => by
        rcases hss _ e with e | e
        · have := HD.out.lt e; omega
        · omega
      have hngd : ¬ S' w.heap.size := fun e => by
        rcases hss _ e with e | e
        · have := HD.out.lt e; omega
        · omega
      have hdev2 := dev_setCell hdev He9.out (by decide) (by omega) hnge (.int .i64 er)
      refine leaves_cons (f := 38) (args := #[.pointer (some ⟨w.heap.size + 1, 0, none⟩), .pointer (some ⟨w.heap.size, 0, none⟩)]) (by simp) (by simp [go_sem]) ?_
      refine (save1_d .returning hdev2 (hcr.fuel (by omega)) hcr.fits Hd10 He10 hngd hnge).mono ?_
      rintro e u' w9 ⟨rfl, rfl, w1', hR, hor⟩
      have hsv : saveD st k pn b = fin1 st1 er := by
        rw [hz2]
        unfold fin1
        by_cases he : er = 0 <;> simp [he]
      rcases hor with ⟨rfl, hne, hw1⟩ | ⟨rfl, hg1⟩
      · have hg1 : w9.heap[w.heap.size + 1]? = some (.cells #[.int .i64 er] 36 (0, 0)) := by rw [hw1]; exact He10
        have c9 : w9.cell? ⟨w.heap.size + 1, 0, none⟩ = some (.int .i64 er) := (blk_cell hg1 0).trans rfl
        have hRR := (save_end (r2 := 0) HD.out Hb8.out (by omega) hgeb hB hFr hss hR hg1).1
        refine ⟨.int .i64 er, ?_, by rw [hsv]; simp [fin1, hne], by rw [hsv]; exact hRR⟩
        clear hRR hR hFr hss hdev hdev2 hsv hz2
        simp only [results, hres]
        go_simp
      · have c9 : (w1'.setCell ⟨w.heap.size + 1, 0, none⟩ (.int .i64 (fin1 st1 er).2)).cell? ⟨w.heap.size + 1, 0, none⟩ = some (.int .i64 (fin1 st1 er).2) := World.cell?_setCell_same _ _ _ ((blk_cell hg1 0).trans (show _ = some (Value.int .i64 er) from rfl))
        have hRR := (save_end (r2 := (fin1 st1 er).2) HD.out Hb8.out (by omega) hgeb hB hFr hss hR hg1).2
        refine ⟨.int .i64 (fin1 st1 er).2, ?_, by rw [hsv], by rw [hsv]; exact hRR⟩
        clear hRR hR hFr hss hdev hdev2 hsv hz2
        simp only [results, hres]
        go_simp
    · have h1 : (er != 0) = true := by rw [bne_iff_ne]; exact her
      have hz : saveD st k pos b = (st, er) := by rw [HZ.out, if_pos her]
      have HZ2 := Lib.hid hz
      have e4 := (blk_cell He4.out 0).trans (show _ = some (Value.int .i64 er) from rfl)
      have fe4 := blk_frozen He4.out 0
      clear hz
      go_wp2
      have hres : Try.f16.results = #[.cell 8 36] := by kernel_rfl
      refine ⟨.int .i64 er, ?_, by rw [HZ2.out], by rw [HZ2.out]; exact Res.stay HD.out (Hb4.out.setCell (by simp) _)⟩
      simp only [results, hres]
      go_simp
end Go.Proofs.Ytalnhdeckdakfaa.Dev
