/-
  The device: 'check', the map's four functions, 'perform'.
-/
import Derived.Test.YtalnhdeckdakfaaDevA
import Derived.Test.YtalnhdeckdakfaaDevW
namespace Go.Proofs.Ytalnhdeckdakfaa.Dev
open Go.RowKit Go.Proofs
set_option linter.unusedVariables false
set_option linter.unusedSectionVars false
set_option linter.unusedSimpArgs false
variable [Bs]

theorem cell_of_below {w wr : World} (h : Below w.heap.size w wr) {p : Addr} {v : Value} (hc : w.cell? p = some v) : wr.cell? p = some v :=
  (h.cell (World.block_lt_of_cell? w p hc)).trans hc
theorem blk_below {w w1 : World} {g : Nat} {o : Obj} (h : w.heap[g]? = some o) (hb : Below w.heap.size w w1) : w1.heap[g]? = some o := by
  have hlt : g < w.heap.size := (Array.getElem?_eq_some_iff.1 h).1
  exact (hb.block g hlt).trans h
theorem below_trans {w w1 w2 : World} (h : Below w.heap.size w w1) (k : Below w1.heap.size w1 w2) : Below w.heap.size w w2 :=
  h.trans (k.mono h.size)
theorem below_drewN' {w w1 : World} (h : Below w.heap.size w w1) (n : Nat) : Below w.heap.size w (w1.drewN n) := ⟨h.os, h.tape, h.output, h.size, h.block⟩

theorem info22 : (Try.prog.info? 32).map (fun i => (i.zero, i.size, i.bytes)) = some (some (.slice none 0 0), 1, 24) := by kernel_rfl
theorem lookup_no {w : World} {r clock : Nat} {es : Array MapEntry} {fs : FS} (hf : FSR w es.toList fs) {k : ByteArray} (hg : fs.get k = none) : ∀ W : World, W.heap[r]? = some (.map es clock) →
      (Instr.lookup 74 (.map (some r)) (.string k) true).run Try.prog W = .ok (.tuple #[.slice none 0 0, .bool false]) W ∧ (Instr.lookup 74 (.map (some r)) (.string k) false).run Try.prog W = .ok (.slice none 0 0) W := by
  obtain ⟨i, hi, hz⟩ := Option.map_eq_some_iff.1 info22
  exact run_lookup_no Try.underlying74 Try.underlying9 hi (by injection hz with hz) hf hg
theorem lookup_yes {w : World} {r clock : Nat} {es : Array MapEntry} {fs : FS} (hf : FSR w es.toList fs) {k : ByteArray} {xs : List Int} (hg : fs.get k = some xs) : ∃ v, Rd w v xs ∧ ∀ W : World, W.heap[r]? = some (.map es clock) →
      (Instr.lookup 74 (.map (some r)) (.string k) true).run Try.prog W = .ok (.tuple #[v, .bool true]) W ∧ (Instr.lookup 74 (.map (some r)) (.string k) false).run Try.prog W = .ok v W :=
  run_lookup_yes Try.underlying74 Try.underlying9 hf hg

theorem take_all_valid {l : List ByteArray} {k : Nat} (hk : k < l.length) : (l.take (k + 1)).all valid = ((l.take k).all valid && valid (l.getD k ByteArray.empty)) := by
  rw [List.take_succ_eq_append_getElem hk, List.all_append]
  simp [List.getD_eq_getElem?_getD, List.getElem?_eq_getElem hk]
theorem all_false_of_take {α : Type} {p : α → Bool} {l : List α} {k : Nat} (h : (l.take k).all p = false) : l.all p = false := by
  cases h3 : l.all p with
  | false => rfl
  | true =>
    rw [List.all_eq_true] at h3
    have h4 : (l.take k).all p = true := List.all_eq_true.2 fun x hx => h3 x (List.mem_of_mem_take hx)
    rw [h4] at h; cases h

theorem check_down {w : World} {d : Nat} {m1 m2 pv : Value} {fuse : Int} (h : DevB w d m1 m2 pv fuse true) (needed : Bool) (v : Value) :
    Calls Try.prog 57 #[.pointer (some ⟨d, 0, none⟩), .bool needed, v] w fun e w' => e = .returned (.int .i64 303) ∧ w = w' := by
  have c4 := h.c4
  go_enter Try.func57, Try.ntmps57
  go_wp2
  go_ret
  exact ⟨rfl, rfl⟩

set_option maxHeartbeats 1000000 in
theorem check_up {w : World} {d a rn clock : Nat} {es : Array MapEntry} {fs : FS} {m1 pv : Value} {fuse : Int} (h : DevB w d m1 (.map (some rn)) pv fuse false)
    (hM : w.heap[rn]? = some (.map es clock)) (hF : FSR w es.toList fs) (needed : Bool) (ns : List ByteArray)
    (hn : ∀ i, i < ns.length → w.cell? ⟨a, i, none⟩ = some (.string (ns.getD i ByteArray.empty))) (hsz : ∀ i, i < ns.length → (ns.getD i ByteArray.empty).size ≤ 9223372036854775807) (h1 : 1 ≤ ns.length) (h2 : ns.length ≤ 2) :
    Calls Try.prog 57 #[.pointer (some ⟨d, 0, none⟩), .bool needed, .slice (some ⟨a, 0, none⟩) ns.length ns.length] w fun e w' => e = .returned (.int .i64 (chk false needed fs ns)) ∧ Below w.heap.size w w' := by
  have c4 := h.c4
  generalize hr : chk false needed fs ns = r
  have Hr := Lib.hid hr
  clear hr
  have HD := Lib.hid h
  have Hn := Lib.hid hn
  have Hsz := Lib.hid hsz
  have HM := Lib.hid hM
  have HF := Lib.hid hF
  clear h hn hsz hM hF
  go_enter Try.func57, Try.ntmps57
  go_wp2
  clear c4
  go_loopw [17] (fun i wr => ∃ k : Nat, k ≤ ns.length ∧ i = .int .i64 k ∧ (ns.take k).all valid = true ∧ Below w.heap.size w wr) (fun i _ => ns.length - (intOf i).toNat)
  case atStart => exact ⟨0, Nat.zero_le _, rfl, by simp, Below.refl _ _⟩
  case round =>
    obtain ⟨k, hk, rfl, hall, hB⟩ := hrel
    have Hall := Lib.hid hall
    have HB := Lib.hid hB
    clear hall hB
    by_cases hlt : k < ns.length
    · have hck := cell_of_below HB.out (Hn.out k hlt)
      have hs := Hsz.out k hlt
      have Hts := Lib.hid (take_all_valid hlt)
      generalize ns.getD k ByteArray.empty = s at *
      cases hvs : valid s with
      | true =>
        have Hvs := Lib.hid hvs
        go_wp2_with (go_at_call 68; (with_reducible refine (valid_calls s _ hs).mono ?_); rintro e w1 ⟨rfl, hb1⟩; rw [Hvs.out]; have HB1 := Lib.hid hb1; clear hb1)
        refine ⟨⟨k + 1, by omega, by go_num, ?_, below_trans HB.out HB1.out⟩, by simp [intOf]; omega⟩
        rw [Hts.out, Hall.out, Hvs.out]; rfl
      | false =>
        have Hvs := Lib.hid hvs
        have hfin : r = 300 := by
          rw [← Hr.out]
          have h3 : ns.all valid = false := all_false_of_take (k := k + 1) (by rw [Hts.out, Hvs.out, Bool.and_false])
          simp [chk, h3]
        have Hfin := Lib.hid hfin
        clear hfin
        go_wp2_with (go_at_call 68; (with_reducible refine (valid_calls s _ hs).mono ?_); rintro e w1 ⟨rfl, hb1⟩; rw [Hvs.out]; have HB1 := Lib.hid hb1; clear hb1)
        go_ret
        exact ⟨by rw [Hfin.out]; rfl, below_trans HB.out HB1.out⟩
    · have hall2 : ns.all valid = true := by
        have := Hall.out
        rwa [List.take_of_length_le (by omega)] at this
      have Hall2 := Lib.hid hall2
      clear hall2
      cases needed with
      | false =>
        have hfin : r = 0 := by
          rw [← Hr.out]; simp [chk, Hall2.out]
        have Hfin := Lib.hid hfin
        clear hfin
        go_wp2
        go_ret
        exact ⟨by rw [Hfin.out]; rfl, HB.out⟩
      | true =>
        have hM1 := blk_below HM.out HB.out
        have hF1 := HF.out.move (U8.below HB.out)
        have hD1 : DevB wr d m1 (.map (some rn)) pv fuse false := blk_below HD.out HB.out
        have c1 := hD1.c1
        have hs0 := cell_of_below HB.out (Hn.out 0 (by omega))
        have hhd : ns.headD ByteArray.empty = ns.getD 0 ByteArray.empty := by cases ns <;> rfl
        have Hhd := Lib.hid hhd
        clear hhd
        generalize ns.getD 0 ByteArray.empty = s0 at *
        cases hg : fs.get s0 with
        | none =>
          have hfin : r = 301 := by
            rw [← Hr.out]; unfold chk; rw [Hhd.out, hg, Hall2.out]; rfl
          have hl := fun n => (lookup_no hF1 hg (wr.drewN n) hM1).1
          have Hfin := Lib.hid hfin
          clear hfin hg hM1 hF1
          go_wp2
          go_quiet (fail)
          go_wp2
          go_ret
          exact ⟨by rw [Hfin.out]; rfl, below_drewN' HB.out _⟩
        | some xs =>
          have hfin : r = 0 := by
            rw [← Hr.out]; unfold chk; rw [Hhd.out, hg, Hall2.out]; rfl
          obtain ⟨v, _, hl0⟩ := lookup_yes (r := rn) (clock := clock) hF1 hg
          have hl := fun n => (hl0 (wr.drewN n) hM1).1
          clear hl0
          have Hfin := Lib.hid hfin
          clear hfin hg hM1 hF1
          go_wp2
          go_quiet (fail)
          go_wp2
          go_ret
          exact ⟨by rw [Hfin.out]; rfl, below_drewN' HB.out _⟩
end Go.Proofs.Ytalnhdeckdakfaa.Dev
