/-
  The device: Create, Sync, Read, Restart, Fuse, Down, Pending, New.
-/
import Derived.Test.YtalnhdeckdakfaaDevH
namespace Go.Proofs.Ytalnhdeckdakfaa.Dev
open Go.RowKit Go.Proofs
set_option linter.unusedVariables false
set_option linter.unusedSectionVars false
set_option linter.unusedSimpArgs false
variable [Bs]

theorem DevW.set3 {w : World} {d rd rn : Nat} {st : DS} {S : Nat → Prop} {pv : Value} {cells : List Value} (h : DevW w d st S rd rn pv cells) (n : Int) : DevW (w.setCell ⟨d, 3, none⟩ (.int .i64 n)) d { st with fuse := n } S rd rn pv cells ∧ Fr (· = d) w (w.setCell ⟨d, 3, none⟩ (.int .i64 n)) := by
  have hF : Fr (· = d) w (w.setCell ⟨d, 3, none⟩ (.int .i64 n)) := Fr.setCell (S := (· = d)) rfl _
  have hu := hF.u8 fun i hi => hi ▸ h.blk.no8 h.base
  have hne : ∀ i, pv.ownBlock = some i → i ≠ d := fun i hi e => by
      rcases own_ne_dev h.blk h.own with h1 | h1
      · rw [h1] at hi; cases hi
      · exact h1 (by rw [hi, e])
  exact ⟨⟨h.blk.set3 n, h.dur.move (hF.block _ h.dur.lt (map_ne_dev h.dur h.blk)) hu, h.now.move (hF.block _ h.now.lt (map_ne_dev h.now h.blk)) hu, own_fr hF h.own hne, h.ops.move hu, h.ne, h.base, h.set⟩, hF⟩
theorem Res.set3 {w : World} {d : Nat} {st : DS} {S : Nat → Prop} (h : DevI w d st S) (n : Int) : Res w (w.setCell ⟨d, 3, none⟩ (.int .i64 n)) d { st with fuse := n } S := by
  obtain ⟨rd, rn, pv, cells, h⟩ := h
  exact ⟨S, ⟨rd, rn, pv, cells, (h.set3 n).1⟩, (h.set3 n).2.mono fun i _ e => (h.set i).2 (.inl e), fun i hi => .inl hi⟩
theorem DevW.set4 {w : World} {d rd rn : Nat} {st : DS} {S : Nat → Prop} {pv : Value} {cells : List Value} (h : DevW w d st S rd rn pv cells) (b : Bool) : DevW (w.setCell ⟨d, 4, none⟩ (.bool b)) d { st with down := b } S rd rn pv cells ∧ Fr (· = d) w (w.setCell ⟨d, 4, none⟩ (.bool b)) := by
  have hF : Fr (· = d) w (w.setCell ⟨d, 4, none⟩ (.bool b)) := Fr.setCell (S := (· = d)) rfl _
  have hu := hF.u8 fun i hi => hi ▸ h.blk.no8 h.base
  have hne : ∀ i, pv.ownBlock = some i → i ≠ d := fun i hi e => by
      rcases own_ne_dev h.blk h.own with h1 | h1
      · rw [h1] at hi; cases hi
      · exact h1 (by rw [hi, e])
  exact ⟨⟨h.blk.set4 b, h.dur.move (hF.block _ h.dur.lt (map_ne_dev h.dur h.blk)) hu, h.now.move (hF.block _ h.now.lt (map_ne_dev h.now h.blk)) hu, own_fr hF h.own hne, h.ops.move hu, h.ne, h.base, h.set⟩, hF⟩
theorem Res.set4 {w : World} {d : Nat} {st : DS} {S : Nat → Prop} (h : DevI w d st S) (b : Bool) : Res w (w.setCell ⟨d, 4, none⟩ (.bool b)) d { st with down := b } S := by
  obtain ⟨rd, rn, pv, cells, h⟩ := h
  exact ⟨S, ⟨rd, rn, pv, cells, (h.set4 b).1⟩, (h.set4 b).2.mono fun i _ e => (h.set i).2 (.inl e), fun i hi => .inl hi⟩
/-- one step behind another -/
theorem Res.chain {w w1 w2 : World} {d : Nat} {st2 : DS} {S S1 : Nat → Prop} (f1 : Fr S w w1) (n1 : ∀ i, S1 i → S i ∨ w.heap.size ≤ i) (k : Res w1 w2 d st2 S1) : Res w w2 d st2 S := by
  obtain ⟨S2, h2, f2, n2⟩ := k
  refine ⟨S2, h2, ⟨f2.os.trans f1.os, f2.tape.trans f1.tape, f2.output.trans f1.output, Nat.le_trans f1.size f2.size, fun i hi hn => ?_⟩, fun i hi => ?_⟩
  · rw [f2.block i (Nat.lt_of_lt_of_le hi f1.size) (fun e => by
      rcases n1 i e with e | e
      · exact hn e
      · omega), f1.block i hi hn]
  · rcases n2 i hi with e | e
    · exact n1 i e
    · exact .inr (Nat.le_trans f1.size e)
theorem Res.then {w w1 w2 : World} {d : Nat} {st1 st2 : DS} {S : Nat → Prop} (h : Res w w1 d st1 S) (k : ∀ S1, DevI w1 d st1 S1 → Res w1 w2 d st2 S1) : Res w w2 d st2 S := by
  obtain ⟨S1, h1, f1, n1⟩ := h
  exact Res.chain f1 n1 (k S1 h1)

theorem fuse_dev {w : World} {d : Nat} {st : DS} {S : Nat → Prop} (h : DevI w d st S) (n : Int) :
    Calls Try.prog 20 #[.pointer (some ⟨d, 0, none⟩), .int .i64 n] w fun e w' => e = .returned (.tuple #[]) ∧ Res w w' d (st.setFuse n) S := by
  have hR := Lib.hid (Res.set3 h (max n 0))
  obtain ⟨rd, rn, pv, cells, h⟩ := h
  have f3 := h.blk.fz 3
  have c3 := h.blk.c3
  clear h
  by_cases hn : n < 0
  · have e : max n 0 = 0 := by omega
    have hd : decide (n < 0) = true := by simpa using hn
    have hd1 : decide (0 < n) = false := by simp; omega
    rw [e] at hR
    have E := Lib.hid e
    clear e
    go_enter Try.func20, Try.ntmps20
    go_wp2
    go_end0
    exact ⟨rfl, by unfold DS.setFuse; rw [E.out]; exact hR.out⟩
  · have e : max n 0 = n := by omega
    have hd : decide (n < 0) = false := by simp; omega
    have hd1 : decide (n ≤ 0) = decide (n = 0) := by simp; omega
    rw [e] at hR
    have E := Lib.hid e
    clear e
    go_enter Try.func20, Try.ntmps20
    go_wp2
    go_end0
    exact ⟨rfl, by unfold DS.setFuse; rw [E.out]; exact hR.out⟩

theorem settle_dev {w : World} {d : Nat} {st : DS} {S : Nat → Prop} (h : DevI w d st S) {v : Value} {os : List Op} (hv : RdO w v os) (hvd : ∀ i, v.ownBlock = some i → i ≠ d ∧ w.heap[i]?.any (fun o => match o with | .map .. => true | _ => false) = false) (hf : Fits st.dur os) :
    Calls Try.prog 44 #[.pointer (some ⟨d, 0, none⟩), v] w fun e w' => e = .returned (.tuple #[]) ∧ Res w w' d (st.settle os) S := by
  obtain ⟨rd, rn, pv, cells, h⟩ := h
  refine (settle_calls h.blk h.dur h.base hv (fun e => (hvd d e).1 rfl) (fun e => ?_) hf).mono ?_
  · obtain ⟨_, es, clock, hM, _⟩ := h.dur
    have := (hvd rd e).2
    rw [hM] at this
    cases this
  rintro e w' ⟨rfl, rn', h1, h2, h3, h4, h5⟩
  refine ⟨rfl, fun i => i = d ∨ i = rd ∨ i = rn', ⟨rd, rn', .slice none 0 0, [], h1, h2, h3, own_nil _ _ _ _, trivial, ?_, h.base, fun i => ?_⟩, h4.mono fun i _ e => (h.set i).2 (e.elim .inl fun e => .inr (.inl e)), ?_⟩
  · have := h.dur.lt; omega
  · simp [Value.ownBlock]
  · rintro i (e | e | e)
    · exact .inl ((h.set i).2 (.inl e))
    · exact .inl ((h.set i).2 (.inr (.inl e)))
    · exact .inr (by omega)
theorem own_any {w : World} {base n : Nat} {e : TypeId} {s : Nat} {v : Value} {xs : List Value} (h : w.ownsRow base e s v n xs) (i : Nat) (hi : v.ownBlock = some i) : w.heap[i]?.any (fun o => match o with | .map .. => true | _ => false) = false := by
  rcases h.2 with ⟨rfl, _⟩ | ⟨g, cap, cur, rfl, _, hh, _⟩
  · cases hi
  · have : g = i := by simpa [Value.ownBlock] using hi
    subst this
    rw [hh]; rfl

theorem burn_dev {w : World} {d : Nat} {st : DS} {S : Nat → Prop} (h : DevI w d st S) (hf : Fuel st) :
    Calls Try.prog 56 #[.pointer (some ⟨d, 0, none⟩)] w fun e w' => e = .returned (.int .i64 (if st.burn.2 then 0 else 303)) ∧ Res w w' d st.burn.1 S := by
  have h' := h
  obtain ⟨rd, rn, pv, cells, h⟩ := h
  have hD := h.blk
  by_cases h0 : st.fuse = 0
  · rw [h0] at hD
    refine (burn_zero hD).mono ?_
    rintro e w' ⟨rfl, rfl⟩
    have : st.burn = (st, true) := by simp [DS.burn, h0]
    rw [this]
    exact ⟨rfl, Res.stay h' (Below.refl _ _)⟩
  by_cases h1 : st.fuse = 1
  · rw [h1] at hD
    refine (burn_out hD).mono ?_
    rintro e w' ⟨rfl, rfl⟩
    have : st.burn = ({ st with fuse := 0, down := true }, false) := by simp [DS.burn, h1]
    rw [this]
    exact ⟨rfl, (Res.set3 h' 0).then fun S1 h1 => Res.set4 h1 true⟩
  · have hlo := hf.lo
    refine (burn_more hD (by omega) hf.hi).mono ?_
    rintro e w' ⟨rfl, rfl⟩
    have : st.burn = ({ st with fuse := st.fuse - 1 }, true) := by simp only [DS.burn, h0, if_false, show st.fuse - 1 > 0 by omega, if_true]
    rw [this]
    exact ⟨rfl, Res.set3 h' _⟩

set_option maxHeartbeats 1000000 in
theorem sync_dev {w : World} {d : Nat} {st : DS} {S : Nat → Prop} (h : DevI w d st S) (hf : Fuel st) (hfit : Fits st.dur st.pend) :
    Calls Try.prog 39 #[.pointer (some ⟨d, 0, none⟩)] w fun e w' => e = .returned (.int .i64 st.sync.2) ∧ Res w w' d st.sync.1 S := by
  have H := Lib.hid h
  have Hf := Lib.hid hf
  have Hfit := Lib.hid hfit
  obtain ⟨rd, rn, pv, cells, h⟩ := h
  have c4 := h.blk.c4
  clear hf hfit h
  cases hd : st.down with
  | true =>
    have hr : st.sync = (st, 303) := by simp [DS.sync, hd]
    rw [hr]
    rw [hd] at c4
    clear hd hr
    go_enter Try.func39, Try.ntmps39
    go_wp2
    go_ret
    exact ⟨rfl, Res.stay H.out (Below.refl _ _)⟩
  | false =>
    have Hd := Lib.hid hd
    rw [hd] at c4
    cases hb : st.burn.2 with
    | false =>
      have hr : st.sync = (st.burn.1, 303) := by simp [DS.sync, hd, hb]
      rw [hr]
      have Hb := Lib.hid hb
      clear hd hr hb
      go_enter Try.func39, Try.ntmps39
      go_wp2_with fail
      refine (burn_dev H.out Hf.out).mono ?_
      rw [Hb.out]
      rintro e w1 ⟨rfl, hR⟩
      have HR := Lib.hid hR
      clear hR c4
      go_wp2
      go_ret
      exact ⟨rfl, HR.out⟩
    | true =>
      have hr : st.sync = (st.burn.1.settle st.pend, 0) := by simp [DS.sync, hd, hb]
      rw [hr]
      have Hb := Lib.hid hb
      clear hd hr hb
      generalize hs2 : st.burn.1 = s2 at *
      have Hs2 := Lib.hid hs2
      have hpe : s2.pend = st.pend ∧ s2.dur = st.dur := by rw [← hs2]; unfold DS.burn; split <;> (try split) <;> exact ⟨rfl, rfl⟩
      have Hpe := Lib.hid hpe
      clear hs2 hpe
      go_enter Try.func39, Try.ntmps39
      go_wp2_with fail
      refine (burn_dev H.out Hf.out).mono ?_
      rw [Hb.out, Hs2.out]
      rintro e w1 ⟨rfl, hR⟩
      have HR := Lib.hid hR
      obtain ⟨S1, hI1, f1, n1⟩ := hR
      have F1 := Lib.hid f1
      have N1 := Lib.hid n1
      clear f1 n1
      obtain ⟨rd1, rn1, pv1, cells1, hI⟩ := hI1
      have c2 := hI.blk.c2
      have HI := Lib.hid hI
      clear hI c4
      go_wp2_with fail
      refine Calls.mono (settle_dev (S := S1) (os := s2.pend) ⟨rd1, rn1, pv1, cells1, HI.out⟩ (RdO.own HI.out.own HI.out.ops) (fun i hi => ⟨fun e => ?_, own_any HI.out.own i hi⟩) (by rw [Hpe.out.1, Hpe.out.2]; exact Hfit.out)) ?_
      · rcases own_ne_dev HI.out.blk HI.out.own with h1 | h1
        · rw [h1] at hi; cases hi
        · exact h1 (by rw [hi, e])
      rw [Hpe.out.1]
      rintro e w2 ⟨rfl, hR2⟩
      have HR2 := Lib.hid hR2
      clear hR2 c2
      go_wp2
      go_ret
      exact ⟨rfl, Res.chain F1.out N1.out HR2.out⟩

set_option maxHeartbeats 1000000 in
theorem restart_dev {w : World} {d : Nat} {st : DS} {S : Nat → Prop} (h : DevI w d st S) :
    Calls Try.prog 22 #[.pointer (some ⟨d, 0, none⟩)] w fun e w' => e = .returned (.tuple #[]) ∧ Res w w' d st.restart S := by
  have H := Lib.hid h
  obtain ⟨rd, rn, pv, cells, h⟩ := h
  have c4 := h.blk.c4
  clear h
  cases hd : st.down with
  | false =>
    have hr : st.restart = st := by simp [DS.restart, hd]
    rw [hr]
    rw [hd] at c4
    clear hd hr
    go_enter Try.func22, Try.ntmps22
    go_wp2
    refine bodyPost_ret (results_none rfl _ _ _) rfl ?_
    exact ⟨rfl, Res.stay H.out (Below.refl _ _)⟩
  | true =>
    have hr : st.restart = { st.settle [] with down := false } := by simp [DS.restart, hd]
    rw [hr]
    rw [hd] at c4
    clear hd hr
    go_enter Try.func22, Try.ntmps22
    go_wp2_with fail
    refine (settle_dev H.out (RdO.nil w) (fun i hi => by cases hi) (fun k hk => by simp at hk)).mono ?_
    rintro e w1 ⟨rfl, hR⟩
    have HR := Lib.hid hR
    obtain ⟨S1, ⟨rd1, rn1, pv1, cells1, hI1⟩, _⟩ := hR
    have c41 := hI1.blk.c4
    have f41 := hI1.blk.fz 4
    clear hI1 c4
    go_wp2
    go_end0
    exact ⟨rfl, HR.out.then fun S1 h1 => Res.set4 h1 false⟩

set_option maxHeartbeats 1000000 in
set_option maxRecDepth 100000 in
theorem read_dev {w : World} {d : Nat} {st : DS} {S : Nat → Prop} (h : DevI w d st S) (k : ByteArray) (hk : k.size ≤ 9223372036854775807) (hl : ((st.now.get k).getD []).length ≤ 4194304) :
    Calls Try.prog 49 #[.pointer (some ⟨d, 0, none⟩), .string k] w fun e w' => ∃ v, e = .returned (.tuple #[v, .int .i64 (st.read k).2]) ∧ w'.ownsRow w.heap.size 5 1 v (st.read k).1.length (u8s (st.read k).1) ∧ Below w.heap.size w w' := by
  have H := Lib.hid h
  have Hl := Lib.hid hl
  clear h hl
  have hB0 : Below w.heap.size w (w.alloc (.cells #[Value.string k] 9)) := (Below.refl _ _).alloc (Nat.le_refl _) _
  have HB0 := Lib.hid hB0
  clear hB0
  by_cases h0 : chk st.down true st.now [k] = 0
  · have H0 := Lib.hid h0
    have hr : st.read k = ((st.now.get k).getD [], 0) := by simp only [DS.read, h0, if_true]
    rw [hr]
    clear hr h0
    generalize hys : (st.now.get k).getD [] = ys at *
    have Hys := Lib.hid hys
    clear hys
    go_enter Try.func49, Try.ntmps49
    go_wp2_with fail
    refine (check1 (H.out.below HB0.out) true (by go_simp) hk).mono ?_
    rw [H0.out]
    rintro e w1 ⟨rfl, hb⟩
    have HB1 := Lib.hid (below_trans HB0.out hb)
    clear hb HB0
    obtain ⟨rd, rn, pv, cells, hW⟩ := H.out.below HB1.out
    obtain ⟨v0, hv0, hlk0⟩ := lookupI hW.now k
    rw [Hys.out] at hv0
    have Hv0 := Lib.hid hv0
    obtain ⟨A0, c0, rfl, _⟩ := hv0
    have hlk := (hlk0 w1 rfl).2
    have cc1 := hW.blk.c1
    clear hlk0 hW
    go_wp2_with fail
    refine (cloneB_calls Hv0.out (by have := Hl.out; omega)).mono ?_
    rintro e w2 ⟨v2, rfl, ho, hb⟩
    have HB2 := Lib.hid (below_trans HB1.out hb)
    have HO := Lib.hid ho
    have Hb := Lib.hid hb
    obtain ⟨A2, c2, rfl⟩ := own_form ho
    clear ho hb hlk cc1
    go_wp2
    go_ret2
    refine ⟨_, rfl, ?_, HB2.out⟩
    refine ⟨HO.out.1, HO.out.2.imp id ?_⟩
    rintro ⟨g, cap, cur, h1, h2, h3⟩
    exact ⟨g, cap, cur, h1, Nat.le_trans HB1.out.size h2, h3⟩
  · have hr : st.read k = ([], chk st.down true st.now [k]) := by simp only [DS.read, h0, if_false]
    rw [hr]
    have hne : (chk st.down true st.now [k] == 0) = false := by simpa using h0
    clear h0 hr
    generalize hc : chk st.down true st.now [k] = c at *
    have Hc := Lib.hid hc
    clear hc
    go_enter Try.func49, Try.ntmps49
    go_wp2_with fail
    refine (check1 (H.out.below HB0.out) true (by go_simp) hk).mono ?_
    rw [Hc.out]
    rintro e w1 ⟨rfl, hb⟩
    have HB1 := Lib.hid (below_trans HB0.out hb)
    clear hb HB0
    go_wp2
    go_ret2
    exact ⟨_, rfl, own_nil _ _ _ _, HB1.out⟩

theorem run_mk (t : TypeId) (W : World) : (Instr.makeMap t none).run Try.prog W = .ok (.map (some W.heap.size)) (W.alloc (.map #[] 0)) := rfl
theorem new_dev (w : World) (hB : Bs.n ≤ w.heap.size) :
    Calls Try.prog 11 #[] w fun e w' => ∃ d S, e = .returned (.pointer (some ⟨d, 0, none⟩)) ∧ DevI w' d DS.new S ∧ Below w.heap.size w w' ∧ ∀ i, S i → w.heap.size ≤ i := by
  have hmk := run_mk 74
  go_enter Try.func11, Try.ntmps11
  go_wp2
  go_ret
  have h1 : Below w.heap.size w (w.alloc (.map #[] 0)) := (Below.refl _ _).alloc (Nat.le_refl _) _
  have h2 := h1.alloc h1.size (.map #[] 0)
  have h3 := h2.alloc h2.size (.cells #[.map (some w.heap.size), .map (some (w.heap.size + 1)), .slice none 0 0, .int .i64 0, .bool false] 77)
  refine ⟨w.heap.size + 1 + 1, fun i => i = w.heap.size + 1 + 1 ∨ i = w.heap.size ∨ i = w.heap.size + 1, rfl, ⟨w.heap.size, w.heap.size + 1, .slice none 0 0, [], ?_, ⟨hB, #[], 0, ?_, trivial, St.nil⟩, ⟨by omega, #[], 0, ?_, trivial, St.nil⟩, own_nil _ _ _ _, trivial, by omega, by omega, fun i => by simp [Value.ownBlock]⟩, h3, fun i hi => by omega⟩
  · have := heap_alloc_new ((w.alloc (.map #[] 0)).alloc (.map #[] 0)) (.cells #[.map (some w.heap.size), .map (some (w.heap.size + 1)), .slice none 0 0, .int .i64 0, .bool false] 77)
    simpa [DevB, DS.new] using this
  · have e := heap_alloc_new w (.map #[] 0)
    have f1 := blk_below e ((Below.refl _ _).alloc (Nat.le_refl _) (.map #[] 0))
    exact blk_below f1 ((Below.refl _ _).alloc (Nat.le_refl _) _)
  · have e := heap_alloc_new (w.alloc (.map #[] 0)) (.map #[] 0)
    have f1 := blk_below e ((Below.refl _ _).alloc (Nat.le_refl _) (.cells #[.map (some w.heap.size), .map (some (w.heap.size + 1)), .slice none 0 0, .int .i64 0, .bool false] 77))
    simpa using f1

set_option maxHeartbeats 1000000 in
set_option maxRecDepth 100000 in
theorem create_dev {w : World} {d : Nat} {st : DS} {S : Nat → Prop} (h : DevI w d st S) (hf : Fuel st) (k : ByteArray) {v : Value} {b : List Int} (hv : Rd w v b) (hk : k.size ≤ 9223372036854775807) (hlb : b.length ≤ 9223372036854775807) (hl : ((st.now.get k).getD []).length ≤ 4194304) (hn : st.now.length ≤ 1000000) :
    Calls Try.prog 40 #[.pointer (some ⟨d, 0, none⟩), .string k, v] w fun e w' => e = .returned (.int .i64 (st.create k b).2) ∧ Res w w' d (st.create k b).1 S := by
  have H := Lib.hid h
  have Hf := Lib.hid hf
  have Hl := Lib.hid hl
  have Hv := Lib.hid hv
  obtain ⟨A, c, rfl, _⟩ := hv
  clear h hf hl
  have hB0 : Below w.heap.size w (w.alloc (.cells #[Value.string k] 9)) := (Below.refl _ _).alloc (Nat.le_refl _) _
  have HB0 := Lib.hid hB0
  clear hB0
  by_cases h0 : chk st.down false st.now [k] = 0
  · have H0 := Lib.hid h0
    have hr : st.create k b = if 4194304 < b.length ∨ ((st.now.get k).isSome = false ∧ 256 ≤ st.now.length) then (st, 302) else st.perform ⟨1, k, ⟨#[]⟩, b⟩ := by simp only [DS.create, h0, if_true]
    by_cases hbig : 4194304 < b.length ∨ ((st.now.get k).isSome = false ∧ 256 ≤ st.now.length)
    · rw [hr, if_pos hbig]
      clear hr h0
      generalize hys : (st.now.get k).getD [] = ys at *
      have Hys := Lib.hid hys
      generalize hsome : (st.now.get k).isSome = sm at *
      have Hsome := Lib.hid hsome
      generalize hlen : st.now.length = ln at *
      have Hlen := Lib.hid hlen
      clear hys hlen hsome
      go_enter Try.func40, Try.ntmps40
      go_wp2_with fail
      refine (check1 (H.out.below HB0.out) false (by go_simp) hk).mono ?_
      rw [H0.out]
      rintro e w1 ⟨rfl, hb⟩
      have HB1 := Lib.hid (below_trans HB0.out hb)
      clear hb HB0
      obtain ⟨rd, rn, pv, cells, hW⟩ := H.out.below HB1.out
      obtain ⟨v0, hv0, hlk0⟩ := lookupI hW.now k
      rw [Hys.out] at hv0
      obtain ⟨A0, c0, rfl, _⟩ := hv0
      have hlk := (hlk0 w1 rfl).1
      rw [Hsome.out] at hlk
      have cc1 := hW.blk.c1
      obtain ⟨_, es, clock, hM, hF, _⟩ := hW.now
      have hlm := fun ty => run_len_map (P := Try.prog) Try.underlying74 hM hF ty
      rw [Hlen.out] at hlm
      clear hlk0 hW hM hF
      by_cases hb1 : 4194304 < b.length
      · have hd : decide ((4194304 : Int) < (b.length : Int)) = true := by simp; omega
        clear hbig
        go_wp2
        go_ret
        exact ⟨rfl, Res.stay H.out HB1.out⟩
      · have hd : decide ((4194304 : Int) < (b.length : Int)) = false := by simp; omega
        obtain ⟨rfl, h256⟩ := hbig.resolve_left hb1
        have hd2 : decide ((256 : Int) ≤ (ln : Int)) = true := by simp; omega
        go_wp2
        go_ret
        exact ⟨rfl, Res.stay H.out HB1.out⟩
    · rw [hr, if_neg hbig]
      clear hr h0
      generalize hp : st.perform ⟨1, k, ⟨#[]⟩, b⟩ = r at *
      have Hp := Lib.hid hp
      have hb1 : ¬ 4194304 < b.length := fun e => hbig (.inl e)
      have hlp : ((st.now.get k).getD []).length + b.length ≤ 140737488355328 := by have := Hl.out; omega
      have Hlp := Lib.hid hlp
      clear hp hlp
      have hd : decide ((4194304 : Int) < (b.length : Int)) = false := by simp; omega
      generalize hys : (st.now.get k).getD [] = ys at hbig
      have Hys := Lib.hid hys
      generalize hsome : (st.now.get k).isSome = sm at hbig
      have Hsome := Lib.hid hsome
      generalize hlen : st.now.length = ln at hbig hn
      have Hlen := Lib.hid hlen
      have hcase : sm = true ∨ (sm = false ∧ decide ((256 : Int) ≤ (ln : Int)) = false) := by
        cases sm with
        | true => exact .inl rfl
        | false => refine .inr ⟨rfl, ?_⟩; have : ¬ 256 ≤ ln := fun e => hbig (.inr ⟨rfl, e⟩); simp; omega
      clear hys hlen hsome hbig
      go_enter Try.func40, Try.ntmps40
      go_wp2_with fail
      refine (check1 (H.out.below HB0.out) false (by go_simp) hk).mono ?_
      rw [H0.out]
      rintro e w1 ⟨rfl, hb⟩
      have HB1 := Lib.hid (below_trans HB0.out hb)
      clear hb HB0
      obtain ⟨rd, rn, pv, cells, hW⟩ := H.out.below HB1.out
      obtain ⟨v0, hv0, hlk0⟩ := lookupI hW.now k
      rw [Hys.out] at hv0
      obtain ⟨A0, c0, rfl, _⟩ := hv0
      have hlk := (hlk0 w1 rfl).1
      rw [Hsome.out] at hlk
      have cc1 := hW.blk.c1
      obtain ⟨_, es, clock, hM, hF, _⟩ := hW.now
      have hlm := fun ty => run_len_map (P := Try.prog) Try.underlying74 hM hF ty
      rw [Hlen.out] at hlm
      clear hlk0 hW hM hF
      rcases hcase with rfl | ⟨rfl, hd2⟩
      all_goals go_wp2_with fail
      all_goals refine (cloneB_calls (U8.below HB1.out _ _ Hv.out) (by omega)).mono ?_
      all_goals rintro e w2 ⟨v2, rfl, ho, hb⟩
      all_goals have HB2 := Lib.hid (below_trans HB1.out hb)
      all_goals have Hv2 := Lib.hid (Rd.own ho)
      all_goals clear ho hb HB1 hlk cc1
      all_goals obtain ⟨A2, c2, rfl, _⟩ := Hv2.out
      all_goals go_wp2_with fail
      all_goals refine (perform_calls (H.out.below HB2.out) Hf.out.lo Hf.out.hi ⟨1, k, ⟨#[]⟩, b⟩ (.inl rfl) Hv2.out Hlp.out Hf.out.pend).mono ?_
      all_goals rw [Hp.out]
      all_goals rintro e w3 ⟨rfl, hR⟩
      all_goals have HR := Lib.hid (hR.pre HB2.out)
      all_goals clear hR
      all_goals go_wp2
      all_goals go_ret
      all_goals exact ⟨rfl, HR.out⟩
  · have hr : st.create k b = (st, chk st.down false st.now [k]) := by simp only [DS.create, h0, if_false]
    rw [hr]
    have hne : (chk st.down false st.now [k] == 0) = false := by simpa using h0
    clear h0 hr
    generalize hc : chk st.down false st.now [k] = c at *
    have Hc := Lib.hid hc
    clear hc
    go_enter Try.func40, Try.ntmps40
    go_wp2_with fail
    refine (check1 (H.out.below HB0.out) false (by go_simp) hk).mono ?_
    rw [Hc.out]
    rintro e w1 ⟨rfl, hb⟩
    have HB1 := Lib.hid (below_trans HB0.out hb)
    clear hb HB0
    go_wp2
    go_ret
    exact ⟨rfl, Res.stay H.out HB1.out⟩
end Go.Proofs.Ytalnhdeckdakfaa.Dev
