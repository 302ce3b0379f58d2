/-
  checkpoint: Load.
-/
import Derived.Test.YtalnhdeckdakfaaCkC
import Derived.Test.YtalnhdeckdakfaaCkV
import Derived.StillTailTactics
namespace Go.Proofs.Ytalnhdeckdakfaa.Dev
open Go.RowKit Go.Proofs Co
set_option linter.unusedVariables false
set_option linter.unusedSectionVars false
set_option linter.unusedSimpArgs false
variable [Bs]

/-- what Load returns: the position, the state, whether there is one, the error -/
def loadD (st : DS) (k : ByteArray) : Nat × List Int × Bool × Int :=
  if vname k = false then (0, [], false, 323)
  else if (newestD st k).2 ≠ 0 ∨ ((newestD st k).1.turn = 0 ∧ (newestD st k).1.pos = 0) then (0, [], false, (newestD st k).2)
  else ((newestD st k).1.pos, (newestD st k).1.st, true, 0)
theorem vname_size {k : ByteArray} (h : vname k = true) : k.size ≤ 40 := by
  unfold vname at h
  simp only [Bool.and_eq_true, decide_eq_true_eq] at h
  omega
theorem nst_bound (st : DS) (k : ByteArray) : ∀ q, (nst st k q).turn ≤ 4611686018427387904 ∧ (nst st k q).pos ≤ 4611686018427387904
  | 0 => by simp [nst, CP.zero]
  | q + 1 => by
    have h := nst_bound st k q
    have h2 := dec_bound (st.read (cfile k q)).1
    show (pick _ _).turn ≤ _ ∧ (pick _ _).pos ≤ _
    unfold pick
    split
    · exact ⟨h2.1, h2.2.1⟩
    · exact h
theorem newest_bound (st : DS) (k : ByteArray) : (newestD st k).1.turn ≤ 4611686018427387904 ∧ (newestD st k).1.pos ≤ 4611686018427387904 := by
  unfold newestD
  split
  · simp [CP.zero]
  · split
    · simp [CP.zero]
    · exact nst_bound st k 2

set_option maxHeartbeats 4000000 in
set_option maxRecDepth 100000 in
theorem load_dev {w : World} {d : Nat} {st : DS} {S : Nat → Prop} (h : DevI w d st S) (ok : st.Ok) (hbr : BR st.now) (k : ByteArray) (hk : k.size ≤ 9223372036854775807) (hB : Bs.n ≤ w.heap.size) :
    Calls Try.prog 23 #[.pointer (some ⟨d, 0, none⟩), .string k] w fun e w' => ∃ v, e = .returned (.tuple #[.int .i64 (loadD st k).1, v, .bool (loadD st k).2.2.1, .int .i64 (loadD st k).2.2.2]) ∧ Rd w' v (loadD st k).2.1 ∧ Below w.heap.size w w' := by
  have HD := Lib.hid h
  have Hok := Lib.hid ok
  have Hbr := Lib.hid hbr
  clear h ok hbr
  cases hv : vname k with
  | false =>
    have hz : loadD st k = (0, [], false, 323) := by rw [loadD, if_pos hv]
    have HZ := Lib.hid hz
    have Hv := Lib.hid hv
    clear hz hv
    go_enter Try.func23, Try.ntmps23
    go_wp2_with fail
    refine (sfValid_calls k w hk).mono ?_
    rw [Hv.out]
    rintro e w1 ⟨rfl, hb1⟩
    have Hb1 := Lib.hid hb1
    clear hb1
    go_wp2
    exact bodyPost_ret (v := .tuple #[.int .i64 0, .slice none 0 0, .bool false, .int .i64 323]) (by simp [results, Try.results23, go_sem]) rfl ⟨.slice none 0 0, by rw [HZ.out]; rfl, by rw [HZ.out]; exact ⟨none, 0, rfl, Nat.le_refl _, by omega, fun i hi => absurd hi (by simp)⟩, Hb1.out⟩
  | true =>
    have hz : loadD st k = if (newestD st k).2 ≠ 0 ∨ ((newestD st k).1.turn = 0 ∧ (newestD st k).1.pos = 0) then (0, [], false, (newestD st k).2) else ((newestD st k).1.pos, (newestD st k).1.st, true, 0) := by
      rw [loadD, if_neg (by rw [hv]; simp)]
    have HZ := Lib.hid hz
    have Hv := Lib.hid hv
    have hks := vname_size hv
    have Hnb := Lib.hid (newest_bound st k)
    clear hz hv
    go_enter Try.func23, Try.ntmps23
    go_wp2_with fail
    refine (sfValid_calls k w hk).mono ?_
    rw [Hv.out]
    rintro e w1 ⟨rfl, hb1⟩
    have Hb1 := Lib.hid hb1
    clear hb1
    go_wp2_with fail
    refine (newest_dev (HD.out.below Hb1.out) Hok.out Hbr.out k (by omega) (Nat.le_trans hB Hb1.out.size)).mono ?_
    rintro e w2 ⟨v, rfl, hv2, hb2⟩
    generalize newestD st k = nd at *
    obtain ⟨⟨tn, ps, stt⟩, er⟩ := nd
    simp only at hv2 HZ Hnb ⊢
    have Hb2 := Lib.hid (below_trans Hb1.out hb2)
    have Hv2 := Lib.hid hv2
    obtain ⟨VA, VC, rfl, _⟩ := hv2
    clear hb2
    by_cases he : er = 0
    · subst he
      have hba : Below w.heap.size w (w2.alloc (.cells #[.int .i64 tn, .int .i64 ps, .slice VA stt.length VC] 81)) := Hb2.out.alloc Hb2.out.size _
      have hx4 := heap_alloc_new w2 (.cells #[.int .i64 tn, .int .i64 ps, .slice VA stt.length VC] 81)
      have x0 := (blk_cell hx4 0).trans (show _ = some (Value.int .i64 tn) from rfl)
      have x1 := (blk_cell hx4 1).trans (show _ = some (Value.int .i64 ps) from rfl)
      have x2 := (blk_cell hx4 2).trans (show _ = some (Value.slice VA stt.length VC) from rfl)
      have Hv4 := Lib.hid (U8.below ((Below.refl _ _).alloc (Nat.le_refl _) (.cells #[.int .i64 tn, .int .i64 ps, .slice VA stt.length VC] 81)) _ _ Hv2.out)
      have Hba := Lib.hid hba
      clear hba hx4
      by_cases t0 : tn = 0
      rotate_left
      · have hz : loadD st k = (ps, stt, true, 0) := by rw [HZ.out, if_neg (by rintro (h | h); exact h rfl; exact t0 h.1)]
        have HZ2 := Lib.hid hz
        clear hz
        go_wp2_with fail
        go_quiet (fail)
        have hbq := below_drewN' Hba.out nq
        have hvq := U8.below (below_drewN' (Below.refl _ _) nq) _ _ Hv4.out
        generalize World.drewN _ nq = wq at *
        have HBq := Lib.hid hbq
        have HVq := Lib.hid hvq
        clear hbq hvq
        go_wp2
        exact bodyPost_ret (v := .tuple #[.int .i64 ps, .slice VA stt.length VC, .bool true, .int .i64 0]) (by simp [results, Try.results23, go_sem]) rfl ⟨.slice VA stt.length VC, by rw [HZ2.out], by rw [HZ2.out]; exact HVq.out, HBq.out⟩
      subst t0
      by_cases p0 : ps = 0
      rotate_left
      · have hz : loadD st k = (ps, stt, true, 0) := by rw [HZ.out, if_neg (by rintro (h | h); exact h rfl; exact p0 h.2)]
        have HZ2 := Lib.hid hz
        clear hz
        go_wp2_with fail
        go_quiet (fail)
        have hbq := below_drewN' Hba.out nq
        have hvq := U8.below (below_drewN' (Below.refl _ _) nq) _ _ Hv4.out
        generalize World.drewN _ nq = wq at *
        have HBq := Lib.hid hbq
        have HVq := Lib.hid hvq
        clear hbq hvq
        go_wp2
        exact bodyPost_ret (v := .tuple #[.int .i64 ps, .slice VA stt.length VC, .bool true, .int .i64 0]) (by simp [results, Try.results23, go_sem]) rfl ⟨.slice VA stt.length VC, by rw [HZ2.out], by rw [HZ2.out]; exact HVq.out, HBq.out⟩
      subst p0
      have hz : loadD st k = (0, [], false, 0) := by rw [HZ.out, if_pos (.inr ⟨rfl, rfl⟩)]
      have HZ2 := Lib.hid hz
      clear hz
      go_wp2
      exact bodyPost_ret (v := .tuple #[.int .i64 0, .slice none 0 0, .bool false, .int .i64 0]) (by simp [results, Try.results23, go_sem]) rfl ⟨.slice none 0 0, by rw [HZ2.out]; rfl, by rw [HZ2.out]; exact ⟨none, 0, rfl, Nat.le_refl _, by omega, fun i hi => absurd hi (by simp)⟩, Hba.out⟩
    · have e0 : (er != 0) = true := by rw [bne_iff_ne]; exact he
      have hba : Below w.heap.size w (w2.alloc (.cells #[.int .i64 tn, .int .i64 ps, .slice VA stt.length VC] 81)) := Hb2.out.alloc Hb2.out.size _
      have Hba := Lib.hid hba
      have hz : loadD st k = (0, [], false, er) := by rw [HZ.out, if_pos (.inl he)]
      have HZ2 := Lib.hid hz
      clear hba hz
      go_wp2
      exact bodyPost_ret (v := .tuple #[.int .i64 0, .slice none 0 0, .bool false, .int .i64 er]) (by simp [results, Try.results23, go_sem]) rfl ⟨.slice none 0 0, by rw [HZ2.out]; rfl, by rw [HZ2.out]; exact ⟨none, 0, rfl, Nat.le_refl _, by omega, fun i hi => absurd hi (by simp)⟩, Hba.out⟩
end Go.Proofs.Ytalnhdeckdakfaa.Dev
