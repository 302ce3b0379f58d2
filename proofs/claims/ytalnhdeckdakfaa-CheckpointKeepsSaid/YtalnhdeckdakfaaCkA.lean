/-
  checkpoint: file, encode.
-/
import Derived.Test.YtalnhdeckdakfaaCoA
import Derived.Test.YtalnhdeckdakfaaCkPlain
import Derived.LoopN
namespace Go.Proofs.Ytalnhdeckdakfaa.Dev
open Go.RowKit Go.Proofs Co
set_option linter.unusedVariables false
set_option linter.unusedSectionVars false
set_option linter.unusedSimpArgs false
variable [Bs]

theorem row_lt {w : World} {base n : Nat} {e : TypeId} {s : Nat} {v : Value} {xs : List Value} (h : w.ownsRow base e s v n xs) {i : Nat} (hi : v.ownBlock = some i) : i < w.heap.size := by
  rcases h.2 with ⟨rfl, _⟩ | ⟨g, cap, cur, rfl, _, hh, _⟩
  · cases hi
  · have : g = i := by simpa [Value.ownBlock] using hi
    subst this
    exact (Array.getElem?_eq_some_iff.1 hh).1
theorem row_block {w w' : World} {base n : Nat} {e : TypeId} {s : Nat} {v : Value} {xs : List Value} (h : w.ownsRow base e s v n xs) (hb : ∀ i, v.ownBlock = some i → w'.heap[i]? = w.heap[i]?) : w'.ownsRow base e s v n xs := by
  refine ⟨h.1, ?_⟩
  rcases h.2 with hz | ⟨q, cap, cur, rfl, e2, e3, e4⟩
  · exact .inl hz
  · exact .inr ⟨q, cap, cur, rfl, e2, (hb q rfl).trans e3, e4⟩
theorem row_base {w : World} {base base' n : Nat} {e : TypeId} {s : Nat} {v : Value} {xs : List Value} (h : w.ownsRow base e s v n xs) (hb : base' ≤ base) : w.ownsRow base' e s v n xs := by
  refine ⟨h.1, h.2.imp id ?_⟩
  rintro ⟨q, cap, cur, h1, h2, h3⟩
  exact ⟨q, cap, cur, h1, Nat.le_trans hb h2, h3⟩
set_option maxRecDepth 100000 in
theorem cpfile_calls (w : World) (k : ByteArray) (t : Nat) (ht : t ≤ 9223372036854775807) (hk : k.size ≤ 1000) :
    Calls Try.prog 41 #[.string k, .int .i64 t] w fun e w' => e = .returned (.string (cfile k t)) ∧ Below w.heap.size w w' := by
  have hk7 : k.size + 7 ≤ 9223372036854775807 := by omega
  rcases Nat.mod_two_eq_zero_or_one t with h | h
  · have e : cfile k t = k ++ ⟨#[46, 99, 104, 101, 99, 107, 48]⟩ := by simp [cfile, h]
    have hm : (t : Int).tmod 2 = 0 := by rw [Int.tmod_eq_emod_of_nonneg (by omega)]; omega
    have hm2 : (t : Int) % 2 = 0 := by omega
    rw [e]
    clear e h
    go_enter Try.func41, Try.ntmps41
    go_wp2
    go_ret
    exact ⟨rfl, (Below.refl _ _).alloc (Nat.le_refl _) _⟩
  · have e : cfile k t = k ++ ⟨#[46, 99, 104, 101, 99, 107, 49]⟩ := by simp [cfile, h]
    have hm : (t : Int).tmod 2 = 1 := by rw [Int.tmod_eq_emod_of_nonneg (by omega)]; omega
    have hm2 : (t : Int) % 2 = 1 := by omega
    rw [e]
    clear e h
    go_enter Try.func41, Try.ntmps41
    go_wp2
    go_ret
    exact ⟨rfl, (Below.refl _ _).alloc (Nat.le_refl _) _⟩

set_option maxHeartbeats 4000000 in
set_option maxRecDepth 100000 in
theorem encode_calls {w : World} (c : CP) {v : Value} (hv : Rd w v c.st) (h1 : c.turn < 9223372036854775808) (h2 : c.pos < 9223372036854775808) (h3 : c.st.length ≤ 100000000) :
    Calls Try.prog 42 #[.agg #[.int .i64 c.turn, .int .i64 c.pos, v]] w fun e w' => ∃ v1, e = .returned v1 ∧ w'.ownsRow w.heap.size 5 1 v1 c.enc.length (u8s c.enc) ∧ Below w.heap.size w w' := by
  have HR := Lib.hid hv
  obtain ⟨A, cc, rfl, _⟩ := hv
  have hb0 : Below w.heap.size w ((w.alloc (.cells #[.int .i64 c.turn, .int .i64 c.pos, .slice A c.st.length cc] 81)).alloc (.cells #[.int .i64 c.turn, .int .i64 c.pos, .int .i64 c.st.length] 3)) := ((Below.refl _ _).alloc (Nat.le_refl _) _).alloc (by simp) _
  have hn1 := heap_alloc_new (w.alloc (.cells #[.int .i64 c.turn, .int .i64 c.pos, .slice A c.st.length cc] 81)) (.cells #[.int .i64 c.turn, .int .i64 c.pos, .int .i64 c.st.length] 3)
  have hn0 := blk_below (heap_alloc_new w (.cells #[.int .i64 c.turn, .int .i64 c.pos, .slice A c.st.length cc] 81)) ((Below.refl _ _).alloc (Nat.le_refl _) (.cells #[.int .i64 c.turn, .int .i64 c.pos, .int .i64 c.st.length] 3))
  have hsz : (w.alloc (.cells #[.int .i64 c.turn, .int .i64 c.pos, .slice A c.st.length cc] 81)).heap.size = w.heap.size + 1 := by simp
  rw [hsz] at hn1
  have y0 := (blk_cell hn1 0).trans (show _ = some (Value.int .i64 c.turn) from rfl)
  have y1 := (blk_cell hn1 1).trans (show _ = some (Value.int .i64 c.pos) from rfl)
  have y2 := (blk_cell hn1 2).trans (show _ = some (Value.int .i64 c.st.length) from rfl)
  have x2 := (blk_cell hn0 2).trans (show _ = some (Value.slice A c.st.length cc) from rfl)
  have HR0 := Lib.hid (U8.below hb0 _ _ HR.out)
  have hle0 := hb0.size
  have HB0 := Lib.hid hb0
  clear hn0 hn1 hsz hb0
  have hl1 := putU_len10 (v := c.turn) (by omega)
  have hl2 := putU_len10 (v := c.pos) (by omega)
  have hl3 := putU_len10 (v := c.st.length) (by omega)
  go_enter Try.func42, Try.ntmps42
  go_wp2
  refine wp_loop_rounds 4 ?_
  rw [rounds_succ]
  go_wp2_with fail
  generalize ((w.alloc (.cells #[.int .i64 c.turn, .int .i64 c.pos, .slice A c.st.length cc] 81)).alloc (.cells #[.int .i64 c.turn, .int .i64 c.pos, .int .i64 c.st.length] 3)) = W0 at *
  have HO0 : Hid (W0.ownsRow W0.heap.size 5 1 (.slice none 0 0) ([] : List Int).length (u8s [])) := Lib.hid (own_nil _ _ _ _)
  have HC0 : Hid (Below W0.heap.size W0 W0) := Lib.hid (Below.refl _ _)
  refine (putUint_calls W0 (v := c.turn) (by omega)).mono ?_
  rintro e V0 ⟨u0, rfl, ho, hb⟩
  have HD0 := Lib.hid (below_trans HC0.out hb)
  have HP0 := Lib.hid (Rd.own ho)
  have HQ0 := Lib.hid (row_block HO0.out fun i hi => hb.block i (row_lt HO0.out hi))
  obtain ⟨B0, e0, hf⟩ := own_form ho
  subst hf
  clear ho hb
  go_wp2_with (at_builtin; refine wpList_append_rd W0.heap.size rfl _ _ 32 5 rfl Try.underlying32 info5 _ _ [] (putU c.turn) rfl rfl HQ0.out HP0.out HD0.out.size (by first | omega | (simp only [List.length_nil]; omega)) ?_; intro v5 W1 ho5 hg5; generalize hL1 : [] ++ putU c.turn = L1 at ho5; have HO1 := Lib.hid ho5; have HC1 := Lib.hid (below_of_grown HD0.out HQ0.out hg5); have z1 := cell_of_below HC1.out y1; have t1 := cell_of_below HC1.out x2; obtain ⟨D1, f1, hf⟩ := own_form ho5; subst hf; clear ho5 hg5)
  have k1 : L1.length ≤ 10 := by rw [← hL1]; simpa using hl1
  have HL1 := Lib.hid hL1
  clear hL1
  rw [rounds_succ]
  go_wp2_with fail
  refine (putUint_calls W1 (v := c.pos) (by omega)).mono ?_
  rintro e V1 ⟨u1, rfl, ho, hb⟩
  have HD1 := Lib.hid (below_trans HC1.out hb)
  have HP1 := Lib.hid (Rd.own ho)
  have HQ1 := Lib.hid (row_block HO1.out fun i hi => hb.block i (row_lt HO1.out hi))
  obtain ⟨B1, e1, hf⟩ := own_form ho
  subst hf
  clear ho hb
  go_wp2_with (at_builtin; refine wpList_append_rd W0.heap.size rfl _ _ 32 5 rfl Try.underlying32 info5 _ _ L1 (putU c.pos) rfl rfl HQ1.out HP1.out HD1.out.size (by first | omega | (simp only [List.length_nil]; omega)) ?_; intro v5 W2 ho5 hg5; generalize hL2 : L1 ++ putU c.pos = L2 at ho5; have HO2 := Lib.hid ho5; have HC2 := Lib.hid (below_of_grown HD1.out HQ1.out hg5); have z2 := cell_of_below HC2.out y2; have t2 := cell_of_below HC2.out x2; obtain ⟨D2, f2, hf⟩ := own_form ho5; subst hf; clear ho5 hg5)
  have k2 : L2.length ≤ 20 := by rw [← hL2, List.length_append]; omega
  have HL2 := Lib.hid hL2
  clear hL2
  rw [rounds_succ]
  go_wp2_with fail
  refine (putUint_calls W2 (v := c.st.length) (by omega)).mono ?_
  rintro e V2 ⟨u2, rfl, ho, hb⟩
  have HD2 := Lib.hid (below_trans HC2.out hb)
  have HP2 := Lib.hid (Rd.own ho)
  have HQ2 := Lib.hid (row_block HO2.out fun i hi => hb.block i (row_lt HO2.out hi))
  obtain ⟨B2, e2, hf⟩ := own_form ho
  subst hf
  clear ho hb
  go_wp2_with (at_builtin; refine wpList_append_rd W0.heap.size rfl _ _ 32 5 rfl Try.underlying32 info5 _ _ L2 (putU c.st.length) rfl rfl HQ2.out HP2.out HD2.out.size (by first | omega | (simp only [List.length_nil]; omega)) ?_; intro v5 W3 ho5 hg5; generalize hL3 : L2 ++ putU c.st.length = L3 at ho5; have HO3 := Lib.hid ho5; have HC3 := Lib.hid (below_of_grown HD2.out HQ2.out hg5); have z3 := cell_of_below HC3.out y2; have t3 := cell_of_below HC3.out x2; obtain ⟨D3, f3, hf⟩ := own_form ho5; subst hf; clear ho5 hg5)
  have k3 : L3.length ≤ 30 := by rw [← hL3, List.length_append]; omega
  have HL3 := Lib.hid hL3
  have HRe := Lib.hid (U8.below HC3.out _ _ HR0.out)
  clear hL3
  rw [rounds_succ]
  go_wp2_with (at_builtin; refine wpList_append_rd W0.heap.size rfl _ _ 32 5 rfl Try.underlying32 info5 _ _ L3 c.st rfl rfl HO3.out HRe.out HC3.out.size (by omega) ?_; intro v5 W4 ho5 hg5; have HO4 := Lib.hid ho5; have HC4 := Lib.hid (below_of_grown HC3.out HO3.out hg5); clear ho5 hg5)
  go_ret
  have he : L3 ++ c.st = c.enc := by
    rw [← HL3.out, ← HL2.out, ← HL1.out]
    simp [CP.enc]
  have ho := HO4.out
  rw [he] at ho
  refine ⟨_, rfl, row_base ho hle0, HB0.out.trans (HC4.out.mono hle0)⟩
end Go.Proofs.Ytalnhdeckdakfaa.Dev
