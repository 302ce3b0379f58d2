/-
  The device: a map's delete, rename and append; clones of maps and of lists of operations.
-/
import Derived.Test.YtalnhdeckdakfaaDevC
import Derived.Laws.Externs
namespace Go.Proofs.Ytalnhdeckdakfaa.Dev
open Go.RowKit Go.Proofs
set_option linter.unusedVariables false
set_option linter.unusedSectionVars false
set_option linter.unusedSimpArgs false
variable [Bs]

theorem delete_run {w : World} {r : Nat} {fs : FS} (h : MapI w r fs) (k : ByteArray) (ty : TypeId) :
    ∃ w', (Builtin.delete_ #[74, 9] ty #[.map (some r), .string k]).run Try.prog w = .ok (.tuple #[]) w' ∧ MapI w' r (fs.del k) ∧ Fr (· = r) w w' ∧ U8 w w' ∧ w'.heap.size = w.heap.size := by
  obtain ⟨hB0, es, clock, hb, hf, hs⟩ := h
  obtain ⟨es', clock', hr, hf', hs'⟩ := run_delete (P := Try.prog) Try.underlying74 Try.underlying9 hb hf k ty 9
  obtain ⟨h1, h2⟩ := MapI.setO (clock := clock') ⟨hB0, es, clock, hb, hf, hs⟩ hf' (hs' hs)
  exact ⟨_, hr, h1, Fr.setO (S := (· = r)) rfl _, h2, by simp⟩
theorem lookupI_yes {w : World} {r : Nat} {fs : FS} (h : MapI w r fs) {k : ByteArray} {xs : List Int} (hg : fs.get k = some xs) : ∃ v, Rd w v xs ∧ ∀ W : World, W.heap[r]? = w.heap[r]? →
      (Instr.lookup 74 (.map (some r)) (.string k) true).run Try.prog W = .ok (.tuple #[v, .bool true]) W ∧ (Instr.lookup 74 (.map (some r)) (.string k) false).run Try.prog W = .ok v W := by
  obtain ⟨hB0, es, clock, hb, hf, hst⟩ := h
  obtain ⟨v, hv, hl⟩ := lookup_yes (r := r) (clock := clock) hf hg
  exact ⟨v, hv, fun W hW => hl W (hW.trans hb)⟩
theorem lookupI_no {w : World} {r : Nat} {fs : FS} (h : MapI w r fs) {k : ByteArray} (hg : fs.get k = none) : ∀ W : World, W.heap[r]? = w.heap[r]? →
      (Instr.lookup 74 (.map (some r)) (.string k) true).run Try.prog W = .ok (.tuple #[.slice none 0 0, .bool false]) W ∧ (Instr.lookup 74 (.map (some r)) (.string k) false).run Try.prog W = .ok (.slice none 0 0) W := by
  obtain ⟨hB0, es, clock, hb, hf, hst⟩ := h
  exact fun W hW => lookup_no (r := r) (clock := clock) hf hg W (hW.trans hb)
theorem Rd.nil (w : World) : Rd w (.slice none 0 0) [] := ⟨none, 0, rfl, Nat.le_refl _, by omega, fun i hi => absurd hi (by simp)⟩
/-- a lookup, whether there or not -/
theorem lookupI {w : World} {r : Nat} {fs : FS} (h : MapI w r fs) (k : ByteArray) : ∃ v, Rd w v ((fs.get k).getD []) ∧ (∀ W : World, W.heap[r]? = w.heap[r]? →
      (Instr.lookup 74 (.map (some r)) (.string k) true).run Try.prog W = .ok (.tuple #[v, .bool (fs.get k).isSome]) W ∧ (Instr.lookup 74 (.map (some r)) (.string k) false).run Try.prog W = .ok v W) := by
  cases hg : fs.get k with
  | none => exact ⟨_, Rd.nil w, lookupI_no h hg⟩
  | some xs => obtain ⟨v, hv, hl⟩ := lookupI_yes h hg; exact ⟨v, hv, hl⟩

theorem rename_calls {w : World} {r : Nat} {fs : FS} (h : MapI w r fs) (k to : ByteArray) (v : Value) :
    Calls Try.prog 78 #[.map (some r), .string k, .string to, v] w fun e w' => e = .returned (.tuple #[]) ∧ MapI w' r ((fs.del k).put to ((fs.get k).getD [])) ∧ Fr (· = r) w w' ∧ U8 w w' := by
  obtain ⟨v0, hv0, hl⟩ := lookupI h k
  have hlk := (hl w rfl).2
  obtain ⟨w1, hrun, hm, hfr, hu, _⟩ := delete_run h k 0
  obtain ⟨w2, hrun2, hm2, hfr2, hu2, _⟩ := update_run hm to (hu _ _ hv0)
  have Hm := Lib.hid hm2
  have Hfr := Lib.hid (hfr.trans hfr2)
  have Hu := Lib.hid (hu.trans hu2)
  clear hm hfr hu h hl hm2 hfr2 hu2 hv0
  go_enter Try.func78, Try.ntmps78
  go_wp2
  go_end0
  exact ⟨rfl, Hm.out, Hfr.out, Hu.out⟩

theorem concat2_calls {w : World} {a : Nat} {v0 v1 : Value} {ys xs : List Int} (h0 : Rd w v0 ys) (h1 : Rd w v1 xs) (c0 : w.cell? ⟨a, 0, none⟩ = some v0) (c1 : w.cell? ⟨a, 1, none⟩ = some v1) (hl : ys.length + xs.length ≤ 140737488355328) :
    Calls Try.prog 77 #[.slice (some ⟨a, 0, none⟩) 2 2] w fun e w' => ∃ v, e = .returned v ∧ w'.ownsRow w.heap.size 5 1 v (ys ++ xs).length (u8s (ys ++ xs)) ∧ Below w.heap.size w w' := by
  have h := concat_calls (w := w) (a := a) (vs := [v0, v1]) (ls := [ys, xs]) ⟨rfl, fun i hi => by
      match i, hi with
      | 0, _ => exact h0
      | 1, _ => exact h1⟩ (fun i hi => by
      match i, hi with
      | 0, _ => exact c0
      | 1, _ => exact c1) (by simp) (by simpa [total] using hl)
  simpa using h

set_option maxHeartbeats 400000 in
theorem append_calls {w : World} {r : Nat} {fs : FS} (h : MapI w r fs) (k to : ByteArray) {v : Value} {xs : List Int} (hv : Rd w v xs) (hl : ((fs.get k).getD []).length + xs.length ≤ 140737488355328) :
    Calls Try.prog 71 #[.map (some r), .string k, .string to, v] w fun e w' => e = .returned (.tuple #[]) ∧ MapI w' r (fs.put k (((fs.get k).getD []) ++ xs)) ∧ Fr (· = r) w w' ∧ U8 w w' := by
  obtain ⟨v0, hv0, hlk0⟩ := lookupI h k
  have hlk := (hlk0 w rfl).2
  generalize (fs.get k).getD [] = ys at *
  have H := Lib.hid h
  have Hv := Lib.hid hv
  have Hv0 := Lib.hid hv0
  have Hl := Lib.hid hl
  obtain ⟨A0, c0, e0, _⟩ := hv0
  obtain ⟨A1, c1, e1, _⟩ := hv
  subst e0 e1
  clear h hl hlk0
  go_enter Try.func71, Try.ntmps71
  have hB0 : Below w.heap.size w (w.alloc (.cells #[Value.slice A0 ys.length c0, Value.slice A1 xs.length c1] 32)) := (Below.refl _ _).alloc (Nat.le_refl _) _
  have HB0 := Lib.hid hB0
  clear hB0
  go_wp2_with fail
  refine (concat2_calls (U8.below HB0.out _ _ Hv0.out) (U8.below HB0.out _ _ Hv.out) (by go_simp) (by go_simp) Hl.out).mono ?_
  rintro e w1 ⟨v1, rfl, ho, hb⟩
  have hb0 := below_trans HB0.out hb
  obtain ⟨w2, hrun, hm, hfr, hu, _⟩ := update_run (H.out.move (hb0.block r H.out.lt) (U8.below hb0)) k (Rd.own ho)
  have Hm := Lib.hid hm
  have Hfr := Lib.hid ((Fr.below hb0).trans hfr)
  have Hu := Lib.hid ((U8.below hb0).trans hu)
  clear ho hb hb0 hm hfr hu
  go_wp2
  go_end0
  exact ⟨rfl, Hm.out, Hfr.out, Hu.out⟩

theorem run_eql_map_nil (w : World) (t k e : TypeId) (p : Option Nat) (h : Try.prog.underlying t = some (.map k e)) :
    (binOp .eql t (.map p) (.map none)).run Try.prog w = .ok (.bool p.isNone) w := by
  have h1 : ∀ d : Nat, (Op.equalIn (d + 1) t (.map p) (.map none)).run Try.prog w = .ok p.isNone w := fun d => by
    cases p <;> simp [Op.equalIn, run_underlying h]
  simp only [binOp]
  simp [show Op.equal t (.map p) (.map none) = Op.equalIn (9999 + 1) t (.map p) (.map none) from rfl, h1 9999]
theorem run_typeAssert_map (w : World) (t xT k e : TypeId) (v : Value) (h : Try.prog.underlying t = some (.map k e)) : (Instr.typeAssert (.iface t v) xT t false).run Try.prog w = .ok v w := by
  simp [Instr.typeAssert, run_underlying h, go_sem, Result.andThen]
theorem run_maps_clone {w : World} {r : Nat} {es : Array MapEntry} {clock : Nat} (t : TypeId) (hb : w.heap[r]? = some (.map es clock)) :
    (Extern.MapsClone.clone #[.iface t (.map (some r))]).run Try.prog w = .ok (.iface t (.map (some w.heap.size))) (w.alloc (.map es clock)) := by
  have e : Extern.MapsClone.clone #[.iface t (.map (some r))] = (getObj r >>= fun o => match o with
      | .map entries clock => (newObj (.map entries clock) >>= fun n => pure (.iface t (.map (some n))))
      | _ => stuck "maps.clone: a map expected") := rfl
  rw [e]
  simp [run_getMap hb, Result.andThen, go_sem]
set_option maxRecDepth 20000 in
theorem cloneM_calls {w : World} {r : Nat} {fs : FS} (h : MapI w r fs) :
    Calls Try.prog 62 #[.map (some r)] w fun e w' => e = .returned (.map (some w.heap.size)) ∧ MapI w' w.heap.size fs ∧ Below w.heap.size w w' ∧ w'.heap.size = w.heap.size + 1 := by
  obtain ⟨hB0, es, clock, hb, hf, hst⟩ := h
  have hq := run_eql_map_nil w 74 _ _ (some r) Try.underlying74
  have hB : Below w.heap.size w (w.alloc (.map es clock)) := (Below.refl _ _).alloc (Nat.le_refl _) _
  have Hm : Hid (MapI (w.alloc (.map es clock)) w.heap.size fs) := Lib.hid ⟨Nat.le_of_lt (Nat.lt_of_le_of_lt hB0 (Array.getElem?_eq_some_iff.1 hb).1), es, clock, heap_alloc_new w _, hf.move (U8.below hB), hst⟩
  have HB := Lib.hid hB
  clear hB
  go_enter Try.func62, Try.ntmps62
  go_wp2
  rw [run_callFunc_extern Try.func69 (by kernel_rfl) (by kernel_rfl) (by kernel_rfl) (e := Extern.MapsClone.clone) (by kernel_rfl), run_maps_clone 74 hb]
  simp only [Result.andThen]
  rw [Oper.upon_value]
  go_wp2
  rw [run_typeAssert_map _ 74 20 _ _ _ Try.underlying74]
  simp only [Result.andThen]
  rw [Oper.upon_value]
  go_wp2
  go_ret
  exact ⟨rfl, Hm.out, HB.out, by simp⟩
end Go.Proofs.Ytalnhdeckdakfaa.Dev
