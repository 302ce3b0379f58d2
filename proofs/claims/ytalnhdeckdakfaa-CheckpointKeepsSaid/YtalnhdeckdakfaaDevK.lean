/-
  The chapter's example ('known'): it is what the sanity check asks.
-/
import Derived.Test.YtalnhdeckdakfaaDevJ
import Derived.Lib.SlBytesConst
import Derived.Laws.BytesArg
namespace Go.Proofs.Ytalnhdeckdakfaa.Dev
open Go.RowKit Go.Proofs
set_option linter.unusedVariables false
set_option linter.unusedSectionVars false
set_option linter.unusedSimpArgs false
variable [Bs]

theorem rd_lit {w : World} {g n : Nat} {cs : Array Value} {xs : List Int} {fr : Nat × Nat} (hb : w.heap[g]? = some (.cells cs 5 fr)) (hc : cs = (u8s xs).toArray) (hn : xs.length = n) (hl : n ≤ 9223372036854775807) : Rd w (.slice (some ⟨g, 0, none⟩) n n) xs := by
  subst hc hn
  refine ⟨_, _, rfl, Nat.le_refl _, hl, fun i hi => ⟨_, rfl, ?_, .inr ⟨_, _, hb⟩⟩⟩
  rw [add_plain]
  have := u8s_get hi
  simp [World.cell?, hb, this]
theorem run_string {w : World} {v : Value} {xs : List Int} (h : Rd w v xs) : (convert 32 9 v).run Try.prog w = .ok (.string (strOfNums xs)) w := by
  obtain ⟨a, c, rfl, h1, h2, h3⟩ := h
  rcases a with _ | ad
  · have h0 : xs = [] := by
      cases xs with
      | nil => rfl
      | cons y ys => obtain ⟨ad, h, _⟩ := h3 0 (by simp); cases h
    subst h0
    exact run_convert_bytes_nil w 32 5 Try.underlying32 Try.underlying5 _ _ 9 Try.underlying9
  · have hl : (loadCells ad xs.length).run Try.prog w = .ok (xs.map (Value.int .u8)).toArray w := by
      have := run_loadCells_list (P := Try.prog) w ad (xs.map (Value.int .u8)) (fun j v hj => by
        have hjl : j < xs.length := by
          rcases Nat.lt_or_ge j xs.length with h | h
          · exact h
          · simp [List.getElem?_eq_none (show (xs.map (Value.int .u8)).length ≤ j by simpa using h)] at hj
        obtain ⟨ad', e, hc, _⟩ := h3 j hjl
        injection e with e
        subst e
        rw [hc]
        simp [List.getElem?_eq_getElem hjl] at hj
        subst hj
        simp [List.getD, List.getElem?_eq_getElem hjl])
      simpa using this
    rw [run_convert_bytes_string w 32 9 5 _ _ c Try.underlying32 Try.underlying5 Try.underlying9, run_bytesToString w _ xs.length c xs hl, foldl_push_bytes]
    simp [strOfNums, ByteArray.empty, ByteArray.emptyWithCapacity]
    rfl

/-- A device of the call's own, in a world in which nothing elder has turned. -/
def DevN (w0 w : World) (d : Nat) (st : DS) : Prop := ∃ S, DevI w d st S ∧ (∀ i, S i → w0.heap.size ≤ i) ∧ Below w0.heap.size w0 w
theorem DevN.step {w0 w w' : World} {d : Nat} {st st' : DS} {S : Nat → Prop} (h1 : DevI w d st S) (h2 : ∀ i, S i → w0.heap.size ≤ i) (h3 : Below w0.heap.size w0 w) (hR : Res w w' d st' S) : DevN w0 w' d st' ∧ U8 w w' := by
  obtain ⟨S', k1, k2, k3⟩ := hR
  refine ⟨⟨S', k1, fun i hi => ?_, ⟨k2.os.trans h3.os, k2.tape.trans h3.tape, k2.output.trans h3.output, Nat.le_trans h3.size k2.size, fun i hi => ?_⟩⟩, h1.u8 k2⟩
  · rcases k3 i hi with e | e
    · exact h2 i e
    · exact Nat.le_trans h3.size e
  · exact (k2.block i (Nat.lt_of_lt_of_le hi h3.size) fun e => by have := h2 i e; omega).trans (h3.block i hi)
theorem DevN.below {w0 w w' : World} {d : Nat} {st : DS} (h : DevN w0 w d st) (hb : Below w.heap.size w w') : DevN w0 w' d st ∧ U8 w w' := by
  obtain ⟨S, h1, h2, h3⟩ := h
  exact DevN.step h1 h2 h3 (Res.stay h1 hb)

abbrev kA : ByteArray := ⟨#[97]⟩
abbrev kB : ByteArray := ⟨#[98]⟩
theorem kn1 : DS.new.create kA [120, 121] = (⟨[], [(kA, [120, 121])], [⟨1, kA, ⟨#[]⟩, [120, 121]⟩], 0, false⟩, 0) := by kernel_rfl
theorem kn2 : DS.sync ⟨[], [(kA, [120, 121])], [⟨1, kA, ⟨#[]⟩, [120, 121]⟩], 0, false⟩ = (⟨[(kA, [120, 121])], [(kA, [120, 121])], [], 0, false⟩, 0) := by kernel_rfl
theorem kn3 : DS.append ⟨[(kA, [120, 121])], [(kA, [120, 121])], [], 0, false⟩ kA [122] = (⟨[(kA, [120, 121])], [(kA, [120, 121, 122])], [⟨2, kA, ⟨#[]⟩, [122]⟩], 0, false⟩, 0) := by kernel_rfl
theorem kn4 : DS.create ⟨[(kA, [120, 121])], [(kA, [120, 121, 122])], [⟨2, kA, ⟨#[]⟩, [122]⟩], 0, false⟩ kB [117, 118] = (⟨[(kA, [120, 121])], [(kA, [120, 121, 122]), (kB, [117, 118])], [⟨2, kA, ⟨#[]⟩, [122]⟩, ⟨1, kB, ⟨#[]⟩, [117, 118]⟩], 0, false⟩, 0) := by kernel_rfl
theorem kn5 : DS.lose ⟨[(kA, [120, 121])], [(kA, [120, 121, 122]), (kB, [117, 118])], [⟨2, kA, ⟨#[]⟩, [122]⟩, ⟨1, kB, ⟨#[]⟩, [117, 118]⟩], 0, false⟩ 1 1 = ⟨[(kA, [120, 121, 122]), (kB, [117])], [(kA, [120, 121, 122]), (kB, [117])], [], 0, true⟩ := by kernel_rfl
theorem kn6 : DS.restart ⟨[(kA, [120, 121, 122]), (kB, [117])], [(kA, [120, 121, 122]), (kB, [117])], [], 0, true⟩ = ⟨[(kA, [120, 121, 122]), (kB, [117])], [(kA, [120, 121, 122]), (kB, [117])], [], 0, false⟩ := by kernel_rfl

section
variable {w0 w : World} {d : Nat} {st st' : DS} {r : Int}
theorem new_N (w : World) (hB : Bs.n ≤ w.heap.size) : Calls Try.prog 11 #[] w fun e w' => ∃ d, e = .returned (.pointer (some ⟨d, 0, none⟩)) ∧ DevN w w' d DS.new ∧ U8 w w' := by
  refine (new_dev w hB).mono ?_
  rintro e w' ⟨d, S, rfl, h1, h2, h3⟩
  exact ⟨d, rfl, ⟨S, h1, h3, h2⟩, U8.below h2⟩
theorem create_N (h : DevN w0 w d st) {k : ByteArray} {v : Value} {b : List Int} (he : st.create k b = (st', r)) (hf : Fuel st) (hv : Rd w v b) (hk : k.size ≤ 9223372036854775807) (hlb : b.length ≤ 9223372036854775807) (hl : ((st.now.get k).getD []).length ≤ 4194304) (hn : st.now.length ≤ 1000000) :
    Calls Try.prog 40 #[.pointer (some ⟨d, 0, none⟩), .string k, v] w fun e w' => e = .returned (.int .i64 r) ∧ DevN w0 w' d st' ∧ U8 w w' := by
  obtain ⟨S, h1, h2, h3⟩ := h
  refine (create_dev h1 hf k hv hk hlb hl hn).mono ?_
  rintro e w' ⟨rfl, hR⟩
  rw [he] at hR ⊢
  exact ⟨rfl, DevN.step h1 h2 h3 hR⟩
theorem append_N (h : DevN w0 w d st) {k : ByteArray} {v : Value} {b : List Int} (he : st.append k b = (st', r)) (hf : Fuel st) (hv : Rd w v b) (hk : k.size ≤ 9223372036854775807) (hlb : b.length ≤ 140737488355328) (hl : ((st.now.get k).getD []).length ≤ 4194304) :
    Calls Try.prog 64 #[.pointer (some ⟨d, 0, none⟩), .string k, v] w fun e w' => e = .returned (.int .i64 r) ∧ DevN w0 w' d st' ∧ U8 w w' := by
  obtain ⟨S, h1, h2, h3⟩ := h
  refine (append_dev h1 hf k hv hlb hk hl).mono ?_
  rintro e w' ⟨rfl, hR⟩
  rw [he] at hR ⊢
  exact ⟨rfl, DevN.step h1 h2 h3 hR⟩
theorem rename_N (h : DevN w0 w d st) {k l : ByteArray} (he : st.rename k l = (st', r)) (hf : Fuel st) (hk : k.size ≤ 9223372036854775807) (hk2 : l.size ≤ 9223372036854775807) (hl : ((st.now.get k).getD []).length ≤ 4194304) :
    Calls Try.prog 74 #[.pointer (some ⟨d, 0, none⟩), .string k, .string l] w fun e w' => e = .returned (.int .i64 r) ∧ DevN w0 w' d st' ∧ U8 w w' := by
  obtain ⟨S, h1, h2, h3⟩ := h
  refine (rename_dev h1 hf k l hk hk2 hl).mono ?_
  rintro e w' ⟨rfl, hR⟩
  rw [he] at hR ⊢
  exact ⟨rfl, DevN.step h1 h2 h3 hR⟩
theorem sync_N (h : DevN w0 w d st)  (he : st.sync = (st', r)) (hf : Fuel st) (hfit : Fits st.dur st.pend) :
    Calls Try.prog 39 #[.pointer (some ⟨d, 0, none⟩)] w fun e w' => e = .returned (.int .i64 r) ∧ DevN w0 w' d st' ∧ U8 w w' := by
  obtain ⟨S, h1, h2, h3⟩ := h
  refine (sync_dev h1 hf hfit).mono ?_
  rintro e w' ⟨rfl, hR⟩
  rw [he] at hR ⊢
  exact ⟨rfl, DevN.step h1 h2 h3 hR⟩
theorem lose_N (h : DevN w0 w d st) {keep torn : Int} (he : st.lose keep torn = st') (hB : Bs.n ≤ w0.heap.size) (hn : st.pend.length ≤ 100000) (hf : Fits st.dur (st.kept keep torn)) :
    Calls Try.prog 21 #[.pointer (some ⟨d, 0, none⟩), .agg #[.int .i64 keep, .int .i64 torn]] w fun e w' => e = .returned (.tuple #[]) ∧ DevN w0 w' d st' ∧ U8 w w' := by
  obtain ⟨S, h1, h2, h3⟩ := h
  refine (lose_dev h1 keep torn hn hf (Nat.le_trans hB h3.size)).mono ?_
  rintro e w' ⟨rfl, hR⟩
  rw [he] at hR
  exact ⟨rfl, DevN.step h1 h2 h3 hR⟩
theorem restart_N (h : DevN w0 w d st)  (he : st.restart = st')  :
    Calls Try.prog 22 #[.pointer (some ⟨d, 0, none⟩)] w fun e w' => e = .returned (.tuple #[]) ∧ DevN w0 w' d st' ∧ U8 w w' := by
  obtain ⟨S, h1, h2, h3⟩ := h
  refine (restart_dev h1).mono ?_
  rintro e w' ⟨rfl, hR⟩
  rw [he] at hR
  exact ⟨rfl, DevN.step h1 h2 h3 hR⟩
theorem fuse_N (h : DevN w0 w d st) {n : Int} (he : st.setFuse n = st')  :
    Calls Try.prog 20 #[.pointer (some ⟨d, 0, none⟩), .int .i64 n] w fun e w' => e = .returned (.tuple #[]) ∧ DevN w0 w' d st' ∧ U8 w w' := by
  obtain ⟨S, h1, h2, h3⟩ := h
  refine (fuse_dev h1 n).mono ?_
  rintro e w' ⟨rfl, hR⟩
  rw [he] at hR
  exact ⟨rfl, DevN.step h1 h2 h3 hR⟩
theorem read_N (h : DevN w0 w d st) {k : ByteArray} {xs : List Int} (he : st.read k = (xs, r)) (hk : k.size ≤ 9223372036854775807) (hl : ((st.now.get k).getD []).length ≤ 4194304) :
    Calls Try.prog 49 #[.pointer (some ⟨d, 0, none⟩), .string k] w fun e w' => ∃ v, e = .returned (.tuple #[v, .int .i64 r]) ∧ Rd w' v xs ∧ DevN w0 w' d st ∧ U8 w w' := by
  have h' := h
  obtain ⟨S, h1, h2, h3⟩ := h
  refine (read_dev h1 k hk hl).mono ?_
  rintro e w' ⟨v, rfl, ho, hb⟩
  rw [he] at ho ⊢
  exact ⟨v, rfl, Rd.own ho, h'.below hb⟩
end
theorem lit_below (w : World) (n : Nat) (hn : n ≤ w.heap.size) (o : Obj) : Below n w (w.alloc o) := (Below.refl _ _).alloc hn o

theorem leb {a b : Nat} (h : Nat.ble a b = true) : a ≤ b := Nat.le_of_ble_eq_true h
theorem Fits.nil (l : FS) : Fits l [] := fun k hk => by simp at hk
theorem Fits.cons {l : FS} {o : Op} {os : List Op} (h1 : o.ok) (h2 : ((l.get o.name).getD []).length + o.b.length ≤ 140737488355328) (h : Fits (app l o) os) : Fits l (o :: os) := fun k hk => by
  match k with
  | 0 => exact ⟨h1, h2⟩
  | k + 1 => exact h k (by simpa using hk)

end Go.Proofs.Ytalnhdeckdakfaa.Dev
