/-
  The calls on resources side by side.
-/
import Derived.Test.YtalnhdeckdakfaaTape
namespace Go.Proofs.Ytalnhdeckdakfaa.Dev
open Go.RowKit Go.Proofs
set_option linter.unusedVariables false
set_option linter.unusedSectionVars false
set_option linter.unusedSimpArgs false
variable [Bs]
section
variable {w00 w : World} {d : Nat} {st st' : DS} {r : Int} {B : Own}
theorem LS.start (w : World) (hB : Bs.n = w.heap.size) : LS w emp w := ⟨fun _ => False, fun _ h => h, Below.refl _ _, Nat.le_of_eq hB⟩
theorem tape_L {w : World} {lv : Value} {xs : List Int} (hB : Bs.n = w.heap.size) (hx : RdI w lv xs) : LS w (star (TapeO w w.heap.size xs 0) emp) (w.alloc (.cells #[lv, .int .i64 0] 25)) ∧ U8 w (w.alloc (.cells #[lv, .int .i64 0] 25)) := by
  refine LS.fresh (B := TapeO w w.heap.size xs 0) stable_emp (LS.start w hB) ((Below.refl _ _).alloc (Nat.le_refl _) _) (S1 := (· = w.heap.size)) ⟨lv, heap_alloc_new w _, hx, Nat.le_of_eq hB, fun i => Iff.rfl⟩ (fun i hi => Nat.le_of_eq hi.symm)
theorem new_L (hB : Stable B) (hq : Bs.n ≤ w00.heap.size) (h : LS w00 B w) : Calls Try.prog 11 #[] w fun e w' => ∃ d, e = .returned (.pointer (some ⟨d, 0, none⟩)) ∧ LS w00 (star (DevO d DS.new) B) w' ∧ U8 w w' := by
  refine (new_dev w (Nat.le_trans hq h.size)).mono ?_
  rintro e w' ⟨d, S, rfl, h1, h2, h3⟩
  exact ⟨d, rfl, LS.fresh (B := DevO d DS.new) hB h h2 h1 h3⟩
theorem create_L (hB : Stable B) (h : LS w00 (star (DevO d st) B) w) {k : ByteArray} {v : Value} {b : List Int} (he : st.create k b = (st', r)) (hf : Fuel st) (hv : Rd w v b) (hk : k.size ≤ 9223372036854775807) (hlb : b.length ≤ 9223372036854775807) (hl : ((st.now.get k).getD []).length ≤ 4194304) (hn : st.now.length ≤ 1000000) :
    Calls Try.prog 40 #[.pointer (some ⟨d, 0, none⟩), .string k, v] w fun e w' => e = .returned (.int .i64 r) ∧ LS w00 (star (DevO d st') B) w' ∧ U8 w w' := by
  refine (LS.calls (α := Unit) (Q := fun _ e _ => e = .returned (.int .i64 r)) (A' := fun _ => DevO d st') (stable_dev d st) hB h fun S h1 hl0 => ?_).mono ?_
  · refine (create_dev h1 hf k hv hk hlb hl hn).mono ?_
    rintro e w' ⟨rfl, hR⟩
    rw [he] at hR ⊢
    exact ⟨(), rfl, hR⟩
  · rintro e w' ⟨_, h1, h2⟩
    exact ⟨h1, h2⟩
theorem append_L (hB : Stable B) (h : LS w00 (star (DevO d st) B) w) {k : ByteArray} {v : Value} {b : List Int} (he : st.append k b = (st', r)) (hf : Fuel st) (hv : Rd w v b) (hk : k.size ≤ 9223372036854775807) (hlb : b.length ≤ 140737488355328) (hl : ((st.now.get k).getD []).length ≤ 4194304) :
    Calls Try.prog 64 #[.pointer (some ⟨d, 0, none⟩), .string k, v] w fun e w' => e = .returned (.int .i64 r) ∧ LS w00 (star (DevO d st') B) w' ∧ U8 w w' := by
  refine (LS.calls (α := Unit) (Q := fun _ e _ => e = .returned (.int .i64 r)) (A' := fun _ => DevO d st') (stable_dev d st) hB h fun S h1 hl0 => ?_).mono ?_
  · refine (append_dev h1 hf k hv hlb hk hl).mono ?_
    rintro e w' ⟨rfl, hR⟩
    rw [he] at hR ⊢
    exact ⟨(), rfl, hR⟩
  · rintro e w' ⟨_, h1, h2⟩
    exact ⟨h1, h2⟩
theorem rename_L (hB : Stable B) (h : LS w00 (star (DevO d st) B) w) {k l : ByteArray} (he : st.rename k l = (st', r)) (hf : Fuel st) (hk : k.size ≤ 9223372036854775807) (hk2 : l.size ≤ 9223372036854775807) (hl : ((st.now.get k).getD []).length ≤ 4194304) :
    Calls Try.prog 74 #[.pointer (some ⟨d, 0, none⟩), .string k, .string l] w fun e w' => e = .returned (.int .i64 r) ∧ LS w00 (star (DevO d st') B) w' ∧ U8 w w' := by
  refine (LS.calls (α := Unit) (Q := fun _ e _ => e = .returned (.int .i64 r)) (A' := fun _ => DevO d st') (stable_dev d st) hB h fun S h1 hl0 => ?_).mono ?_
  · refine (rename_dev h1 hf k l hk hk2 hl).mono ?_
    rintro e w' ⟨rfl, hR⟩
    rw [he] at hR ⊢
    exact ⟨(), rfl, hR⟩
  · rintro e w' ⟨_, h1, h2⟩
    exact ⟨h1, h2⟩
theorem sync_L (hB : Stable B) (h : LS w00 (star (DevO d st) B) w)  (he : st.sync = (st', r)) (hf : Fuel st) (hfit : Fits st.dur st.pend) :
    Calls Try.prog 39 #[.pointer (some ⟨d, 0, none⟩)] w fun e w' => e = .returned (.int .i64 r) ∧ LS w00 (star (DevO d st') B) w' ∧ U8 w w' := by
  refine (LS.calls (α := Unit) (Q := fun _ e _ => e = .returned (.int .i64 r)) (A' := fun _ => DevO d st') (stable_dev d st) hB h fun S h1 hl0 => ?_).mono ?_
  · refine (sync_dev h1 hf hfit).mono ?_
    rintro e w' ⟨rfl, hR⟩
    rw [he] at hR ⊢
    exact ⟨(), rfl, hR⟩
  · rintro e w' ⟨_, h1, h2⟩
    exact ⟨h1, h2⟩
theorem lose_L (hB : Stable B) (h : LS w00 (star (DevO d st) B) w) {keep torn : Int} (he : st.lose keep torn = st') (hq : Bs.n ≤ w00.heap.size) (hn : st.pend.length ≤ 100000) (hf : Fits st.dur (st.kept keep torn)) :
    Calls Try.prog 21 #[.pointer (some ⟨d, 0, none⟩), .agg #[.int .i64 keep, .int .i64 torn]] w fun e w' => e = .returned (.tuple #[]) ∧ LS w00 (star (DevO d st') B) w' ∧ U8 w w' := by
  refine (LS.calls (α := Unit) (Q := fun _ e _ => e = .returned (.tuple #[])) (A' := fun _ => DevO d st') (stable_dev d st) hB h fun S h1 hl0 => ?_).mono ?_
  · refine (lose_dev h1 keep torn hn hf (Nat.le_trans hq hl0.size)).mono ?_
    rintro e w' ⟨rfl, hR⟩
    rw [he] at hR
    exact ⟨(), rfl, hR⟩
  · rintro e w' ⟨_, h1, h2⟩
    exact ⟨h1, h2⟩
theorem restart_L (hB : Stable B) (h : LS w00 (star (DevO d st) B) w)  (he : st.restart = st')  :
    Calls Try.prog 22 #[.pointer (some ⟨d, 0, none⟩)] w fun e w' => e = .returned (.tuple #[]) ∧ LS w00 (star (DevO d st') B) w' ∧ U8 w w' := by
  refine (LS.calls (α := Unit) (Q := fun _ e _ => e = .returned (.tuple #[])) (A' := fun _ => DevO d st') (stable_dev d st) hB h fun S h1 hl0 => ?_).mono ?_
  · refine (restart_dev h1).mono ?_
    rintro e w' ⟨rfl, hR⟩
    rw [he] at hR
    exact ⟨(), rfl, hR⟩
  · rintro e w' ⟨_, h1, h2⟩
    exact ⟨h1, h2⟩
theorem fuse_L (hB : Stable B) (h : LS w00 (star (DevO d st) B) w) {n : Int} (he : st.setFuse n = st')  :
    Calls Try.prog 20 #[.pointer (some ⟨d, 0, none⟩), .int .i64 n] w fun e w' => e = .returned (.tuple #[]) ∧ LS w00 (star (DevO d st') B) w' ∧ U8 w w' := by
  refine (LS.calls (α := Unit) (Q := fun _ e _ => e = .returned (.tuple #[])) (A' := fun _ => DevO d st') (stable_dev d st) hB h fun S h1 hl0 => ?_).mono ?_
  · refine (fuse_dev h1 n).mono ?_
    rintro e w' ⟨rfl, hR⟩
    rw [he] at hR
    exact ⟨(), rfl, hR⟩
  · rintro e w' ⟨_, h1, h2⟩
    exact ⟨h1, h2⟩
theorem LS.dev (h : LS w00 (star (DevO d st) B) w) : ∃ S, DevI w d st S := by
  obtain ⟨S, ⟨S1, S2, h1, _⟩, _⟩ := h
  exact ⟨S1, h1⟩
theorem read_L (hB : Stable B) (h : LS w00 (star (DevO d st) B) w) {k : ByteArray} {xs : List Int} (he : st.read k = (xs, r)) (hk : k.size ≤ 9223372036854775807) (hl : ((st.now.get k).getD []).length ≤ 4194304) :
    Calls Try.prog 49 #[.pointer (some ⟨d, 0, none⟩), .string k] w fun e w' => ∃ v, e = .returned (.tuple #[v, .int .i64 r]) ∧ Rd w' v xs ∧ LS w00 (star (DevO d st) B) w' ∧ U8 w w' := by
  obtain ⟨S, h1⟩ := h.dev
  refine (read_dev h1 k hk hl).mono ?_
  rintro e w' ⟨v, rfl, ho, hb⟩
  rw [he] at ho ⊢
  exact ⟨v, rfl, Rd.own ho, h.below ((stable_dev d st).star hB) hb⟩
end
section
variable {w00 w : World} {t i : Nat} {xs : List Int} {B : Own}
theorem TapeO.step {w' : World} {i' : Nat} {S : Nat → Prop} (h : TapeO w00 t xs i' w' S) (hf : Fr S w w') : Step w w' (TapeO w00 t xs i') S := ⟨S, h, hf, fun _ hi => .inl hi⟩
theorem next_L (hB : Stable B) (hq : Bs.n ≤ w00.heap.size) (h : LS w00 (star (TapeO w00 t xs i) B) w) (hi : i ≤ 800000000) (n : Int) (hn : n ≤ 9223372036854775807) :
    Calls Try.prog 13 #[.pointer (some ⟨t, 0, none⟩), .int .i64 n] w fun e w' => e = .returned (.int .i64 (tnext xs i n)) ∧ LS w00 (star (TapeO w00 t xs (i + 1)) B) w' ∧ U8 w w' := by
  refine (LS.calls (α := Unit) (Q := fun _ e _ => e = .returned (.int .i64 (tnext xs i n))) (A' := fun _ => TapeO w00 t xs (i + 1)) (stable_tape w00 t xs i) hB h fun S h1 hl0 => ?_).mono ?_
  · refine (next_go h1 hl0 hq (by omega) n hn).mono ?_
    rintro e w' ⟨rfl, h2, h3, _⟩
    exact ⟨(), rfl, h2.step h3⟩
  · rintro e w' ⟨_, h1, h2⟩
    exact ⟨h1, h2⟩
theorem bytes_L (hB : Stable B) (hq : Bs.n ≤ w00.heap.size) (h : LS w00 (star (TapeO w00 t xs i) B) w) (hi : i ≤ 800000000) (n : Nat) (hn : n ≤ 1000000) (k : Int) (hk : 1 ≤ k ∧ k ≤ 256) :
    Calls Try.prog 14 #[.pointer (some ⟨t, 0, none⟩), .int .i64 n, .int .i64 k] w fun e w' => ∃ v, e = .returned v ∧ Rd w' v (tbytes xs i n k) ∧ LS w00 (star (TapeO w00 t xs (i + n)) B) w' ∧ U8 w w' := by
  refine (LS.calls (α := Value) (Q := fun v e w' => e = .returned v ∧ Rd w' v (tbytes xs i n k)) (A' := fun _ => TapeO w00 t xs (i + n)) (stable_tape w00 t xs i) hB h fun S h1 hl0 => ?_).mono ?_
  · refine (bytes_calls h1 hl0 hq (by omega) n hn k hk).mono ?_
    rintro e w' ⟨v, rfl, ho, h2, h3, _⟩
    exact ⟨v, ⟨rfl, Rd.own ho⟩, h2.step h3⟩
  · rintro e w' ⟨v, ⟨h1, h2⟩, h3, h4⟩
    exact ⟨v, h1, h2, h3, h4⟩
/-- numbers that came in -/
theorem rdi_of_row {w : World} {a : Option Addr} {len cap : Nat} {zs : List Int} (hB : Bs.n = w.heap.size)
    (h : (a = none ∧ len = 0 ∧ cap = 0 ∧ zs = []) ∨ ∃ x, a = some x ∧ len ≤ cap ∧ cap ≤ maxLen ∧ zs.length = cap ∧ (∀ i, i < zs.length → w.cell? (x.add i) = some (.int .i64 (zs.getD i 0))) ∧ ∀ n ∈ zs, (Lit.int .i64 n).wf = true) : ∃ xs, xs.length = len ∧ RdI w (.slice a len cap) xs := by
  rcases h with ⟨rfl, rfl, rfl, rfl⟩ | ⟨x, rfl, hl, hm, hz, hc, hw⟩
  · exact ⟨[], rfl, none, 0, rfl, by simp, fun x hx => (by cases hx), fun i hi => absurd hi (by simp)⟩
  · have hlen : (zs.take len).length = len := by rw [List.length_take]; omega
    refine ⟨zs.take len, hlen, some x, cap, by rw [hlen], by simp only [maxLen] at hm; omega, fun y hy => ?_, fun i hi => ⟨x, rfl, ?_, ?_⟩⟩
    · have := hw y (List.mem_of_mem_take hy)
      have e : IntKind.i64.min = -9223372036854775808 := rfl
      simpa [Lit.wf, e] using this
    · rw [hc i (by omega)]
      simp [List.getD_eq_getElem?_getD, List.getElem?_take, show i < len by omega]
    · have := World.block_lt_of_cell? w _ (hc i (by omega))
      rw [add_block] at this
      omega
end
end Go.Proofs.Ytalnhdeckdakfaa.Dev
