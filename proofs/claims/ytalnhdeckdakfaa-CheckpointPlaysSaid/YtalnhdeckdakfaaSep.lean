/-
  What a call owns: resources with their blocks, side by side.
-/
import Derived.Test.YtalnhdeckdakfaaDevOk
namespace Go.Proofs.Ytalnhdeckdakfaa.Dev
open Go.RowKit Go.Proofs
set_option linter.unusedVariables false
set_option linter.unusedSectionVars false
set_option linter.unusedSimpArgs false
variable [Bs]

abbrev Own := World → (Nat → Prop) → Prop
structure Stable (R : Own) : Prop where
  lt : ∀ {w S i}, R w S → S i → i < w.heap.size
  ge : ∀ {w S i}, R w S → S i → Bs.n ≤ i
  no8 : ∀ {w S i}, R w S → S i → ¬ Own8 w i
  move : ∀ {w w' S}, R w S → (∀ i, S i → w'.heap[i]? = w.heap[i]?) → U8 w w' → R w' S
def star (A B : Own) : Own := fun w S => ∃ S1 S2, A w S1 ∧ B w S2 ∧ (∀ i, S1 i → ¬ S2 i) ∧ ∀ i, S i ↔ S1 i ∨ S2 i
def emp : Own := fun _ S => ∀ i, ¬ S i
def Step (w w' : World) (A : Own) (S : Nat → Prop) : Prop := ∃ S', A w' S' ∧ Fr S w w' ∧ ∀ i, S' i → S i ∨ w.heap.size ≤ i
def DevO (d : Nat) (st : DS) : Own := fun w S => DevI w d st S
theorem Res.step {w w' : World} {d : Nat} {st : DS} {S : Nat → Prop} (h : Res w w' d st S) : Step w w' (DevO d st) S := h
theorem stable_dev (d : Nat) (st : DS) : Stable (DevO d st) where
  lt := fun h hi => DevI.lt h hi
  ge := fun h hi => DevI.ge h hi
  no8 := fun h hi => DevI.no8 h hi
  move := fun h hb hu => DevI.move h hb hu
theorem stable_emp : Stable emp where
  lt := fun h hi => absurd hi (h _)
  ge := fun h hi => absurd hi (h _)
  no8 := fun h hi => absurd hi (h _)
  move := fun h _ _ => h
theorem Stable.star {A B : Own} (ha : Stable A) (hb : Stable B) : Stable (star A B) where
  lt := by
    rintro w S i ⟨S1, S2, h1, h2, hd, hs⟩ hi
    exact ((hs i).1 hi).elim (ha.lt h1) (hb.lt h2)
  ge := by
    rintro w S i ⟨S1, S2, h1, h2, hd, hs⟩ hi
    exact ((hs i).1 hi).elim (ha.ge h1) (hb.ge h2)
  no8 := by
    rintro w S i ⟨S1, S2, h1, h2, hd, hs⟩ hi
    exact ((hs i).1 hi).elim (ha.no8 h1) (hb.no8 h2)
  move := by
    rintro w w' S ⟨S1, S2, h1, h2, hd, hs⟩ hm hu
    exact ⟨S1, S2, ha.move h1 (fun i hi => hm i ((hs i).2 (.inl hi))) hu, hb.move h2 (fun i hi => hm i ((hs i).2 (.inr hi))) hu, hd, hs⟩

/-- The law's state: resources R, and nothing elder than the law has turned. -/
def LS (w00 : World) (R : Own) (w : World) : Prop := ∃ S, R w S ∧ Below Bs.n w00 w ∧ Bs.n ≤ w00.heap.size

section
variable {w00 w w' : World} {A B C A' : Own}
theorem LS.swap (h : LS w00 (star A B) w) : LS w00 (star B A) w := by
  obtain ⟨S, ⟨S1, S2, h1, h2, hd, hs⟩, hb⟩ := h
  exact ⟨S, ⟨S2, S1, h2, h1, fun i h2 h1 => hd i h1 h2, fun i => (hs i).trans ⟨fun h => h.symm, fun h => h.symm⟩⟩, hb⟩
theorem LS.rot (h : LS w00 (star A (star B C)) w) : LS w00 (star B (star A C)) w := by
  obtain ⟨S, ⟨S1, S2, h1, ⟨T1, T2, k1, k2, kd, ks⟩, hd, hs⟩, hb⟩ := h
  refine ⟨S, ⟨T1, fun i => S1 i ∨ T2 i, k1, ⟨S1, T2, h1, k2, fun i h1 h2 => hd i h1 ((ks i).2 (.inr h2)), fun i => Iff.rfl⟩, fun i h1 h2 => ?_, fun i => ?_⟩, hb⟩
  · rcases h2 with h2 | h2
    · exact hd i h2 ((ks i).2 (.inl h1))
    · exact kd i h1 h2
  · rw [hs, ks]
    constructor
    · rintro (h | h | h)
      · exact .inr (.inl h)
      · exact .inl h
      · exact .inr (.inr h)
    · rintro (h | h | h)
      · exact .inr (.inl h)
      · exact .inl h
      · exact .inr (.inr h)
/-- one resource goes on, the rest stays -/
theorem LS.step (ha : Stable A) (hb : Stable B) (h : LS w00 (star A B) w) (hc : ∀ S, A w S → Below Bs.n w00 w → Step w w' A' S) : LS w00 (star A' B) w' ∧ U8 w w' := by
  obtain ⟨S, ⟨S1, S2, h1, h2, hd, hs⟩, hl, hq⟩ := h
  obtain ⟨S', k1, k2, k3⟩ := hc S1 h1 hl
  have hu : U8 w w' := k2.u8 fun i hi => ha.no8 h1 hi
  refine ⟨⟨fun i => S' i ∨ S2 i, ⟨S', S2, k1, hb.move h2 (fun i hi => k2.block i (hb.lt h2 hi) fun e => hd i e hi) hu, fun i hi h2i => ?_, fun i => Iff.rfl⟩, ?_⟩, hu⟩
  · rcases k3 i hi with e | e
    · exact hd i e h2i
    · have := hb.lt h2 h2i; omega
  · refine ⟨⟨k2.os.trans hl.os, k2.tape.trans hl.tape, k2.output.trans hl.output, Nat.le_trans hl.size k2.size, fun i hi => ?_⟩, hq⟩
    rw [k2.block i (Nat.lt_of_lt_of_le hi (Nat.le_trans hq hl.size)) fun e => by have := ha.ge h1 e; omega]
    exact hl.block i hi
/-- a call that works on one resource -/
theorem LS.calls {f : Nat} {args : Array Value} {α : Type} {Q : α → Ending → World → Prop} {A' : α → Own} (ha : Stable A) (hb : Stable B) (h : LS w00 (star A B) w)
    (hc : ∀ S, A w S → Below Bs.n w00 w → Calls Try.prog f args w fun e w' => ∃ x, Q x e w' ∧ Step w w' (A' x) S) :
    Calls Try.prog f args w fun e w' => ∃ x, Q x e w' ∧ LS w00 (star (A' x) B) w' ∧ U8 w w' := by
  obtain ⟨S, ⟨S1, S2, h1, h2, hd, hs⟩, hl, hq⟩ := h
  refine (hc S1 h1 hl).mono ?_
  rintro e w' ⟨x, hQ, hst⟩
  refine ⟨x, hQ, ?_⟩
  obtain ⟨S', k1, k2, k3⟩ := hst
  have hu : U8 w w' := k2.u8 fun i hi => ha.no8 h1 hi
  refine ⟨⟨fun i => S' i ∨ S2 i, ⟨S', S2, k1, hb.move h2 (fun i hi => k2.block i (hb.lt h2 hi) fun e => hd i e hi) hu, fun i hi h2i => ?_, fun i => Iff.rfl⟩, ?_⟩, hu⟩
  · rcases k3 i hi with e | e
    · exact hd i e h2i
    · have := hb.lt h2 h2i; omega
  · refine ⟨⟨k2.os.trans hl.os, k2.tape.trans hl.tape, k2.output.trans hl.output, Nat.le_trans hl.size k2.size, fun i hi => ?_⟩, hq⟩
    rw [k2.block i (Nat.lt_of_lt_of_le hi (Nat.le_trans hq hl.size)) fun e => by have := ha.ge h1 e; omega]
    exact hl.block i hi
/-- new blocks that nobody owns -/
theorem LS.below (ha : Stable A) (h : LS w00 A w) (hb : Below w.heap.size w w') : LS w00 A w' ∧ U8 w w' := by
  obtain ⟨S, h1, hl, hq⟩ := h
  have hu := U8.below hb
  exact ⟨⟨S, ha.move h1 (fun i hi => hb.block i (ha.lt h1 hi)) hu, ⟨hb.os.trans hl.os, hb.tape.trans hl.tape, hb.output.trans hl.output, Nat.le_trans hl.size hb.size, fun i hi => (hb.block i (Nat.lt_of_lt_of_le hi (Nat.le_trans hq hl.size))).trans (hl.block i hi)⟩, hq⟩, hu⟩
/-- a new resource -/
theorem LS.fresh {B : Own} (ha : Stable A) (h : LS w00 A w) (hb : Below w.heap.size w w') {S1 : Nat → Prop} (h1 : B w' S1) (hn : ∀ i, S1 i → w.heap.size ≤ i) : LS w00 (star B A) w' ∧ U8 w w' := by
  obtain ⟨S, k1, hl, hq⟩ := h
  have hu := U8.below hb
  refine ⟨⟨fun i => S1 i ∨ S i, ⟨S1, S, h1, ha.move k1 (fun i hi => hb.block i (ha.lt k1 hi)) hu, fun i hi hi' => ?_, fun i => Iff.rfl⟩, ⟨hb.os.trans hl.os, hb.tape.trans hl.tape, hb.output.trans hl.output, Nat.le_trans hl.size hb.size, fun i hi => (hb.block i (Nat.lt_of_lt_of_le hi (Nat.le_trans hq hl.size))).trans (hl.block i hi)⟩, hq⟩, hu⟩
  have := ha.lt k1 hi'
  have := hn i hi
  omega
theorem LS.size (h : LS w00 A w) : w00.heap.size ≤ w.heap.size := by
  obtain ⟨_, _, hl, _⟩ := h
  exact hl.size
theorem LS.end (hB : Bs.n = w00.heap.size) (h : LS w00 A w) : Below w00.heap.size w00 w := by
  obtain ⟨_, _, hl, _⟩ := h
  rw [← hB]; exact hl
/-- the last of a resource -/
theorem LS.drop (h : LS w00 (star A B) w) : LS w00 B w := by
  obtain ⟨S, ⟨S1, S2, _, h2, _, _⟩, hb⟩ := h
  exact ⟨S2, h2, hb⟩
end

/-! The tape: numbers that came in, read one after the other. -/
/-- a slice value that reads as these numbers in the world in which the law began -/
def RdI (w00 : World) (v : Value) (xs : List Int) : Prop :=
  ∃ a c, v = .slice a xs.length c ∧ xs.length ≤ 9223372036854775807 ∧ (∀ x ∈ xs, -9223372036854775808 ≤ x ∧ x ≤ 9223372036854775807) ∧ ∀ i, i < xs.length → ∃ ad, a = some ad ∧ w00.cell? (ad.add i) = some (.int .i64 (xs.getD i 0)) ∧ ad.block < Bs.n
def TapeO (w00 : World) (t : Nat) (xs : List Int) (n : Nat) : Own := fun w S =>
  ∃ lv, w.heap[t]? = some (.cells #[lv, .int .i64 n] 25 (0, 0)) ∧ RdI w00 lv xs ∧ Bs.n ≤ t ∧ ∀ i, S i ↔ i = t
theorem stable_tape (w00 : World) (t : Nat) (xs : List Int) (n : Nat) : Stable (TapeO w00 t xs n) where
  lt := by
    rintro w S i ⟨lv, h, _, _, hs⟩ hi
    obtain rfl := (hs i).1 hi
    exact (Array.getElem?_eq_some_iff.1 h).1
  ge := by
    rintro w S i ⟨lv, h, _, hb, hs⟩ hi
    obtain rfl := (hs i).1 hi
    exact hb
  no8 := by
    rintro w S i ⟨lv, h, _, hb, hs⟩ hi
    obtain rfl := (hs i).1 hi
    rintro (h1 | ⟨cs, fr, h1⟩)
    · omega
    · rw [h] at h1
      injection h1 with h1
      injection h1 with _ h1
      exact absurd h1 (by decide)
  move := by
    rintro w w' S ⟨lv, h, h1, hb, hs⟩ hm _
    exact ⟨lv, (hm t ((hs t).2 rfl)).trans h, h1, hb, hs⟩
/-- Fold -/
def fold (v n : Int) : Int := if n ≤ 1 then 0 else if v.tmod n < 0 then v.tmod n + n else v.tmod n
theorem fold_range (v : Int) {n : Int} (hn : 1 ≤ n) : 0 ≤ fold v n ∧ fold v n < n := by
  unfold fold
  split
  · omega
  · have h1 := Int.tmod_lt_of_pos v (show 0 < n by omega)
    have h2 : -n < v.tmod n := by
      have h := Int.tmod_lt_of_pos (-v) (show 0 < n by omega)
      rw [Int.neg_tmod] at h
      omega
    split <;> omega
theorem fold_calls (w : World) {v n : Int} (hv : -9223372036854775808 ≤ v ∧ v ≤ 9223372036854775807) (hn : n ≤ 9223372036854775807) :
    Calls Try.prog 19 #[.int .i64 v, .int .i64 n] w fun e w' => e = .returned (.int .i64 (fold v n)) ∧ w = w' := by
  by_cases h1 : n ≤ 1
  · have e : fold v n = 0 := by simp [fold, h1]
    rw [e]
    have hd : decide (n ≤ 1) = true := by simpa using h1
    go_enter Try.func19, Try.ntmps19
    go_wp2
    go_ret
    exact ⟨rfl, rfl⟩
  · have hd : decide (n ≤ 1) = false := by simpa using h1
    have hz : (n == 0) = false := by simp; omega
    have k1 := Int.tmod_lt_of_pos v (show 0 < n by omega)
    have k2 : -n < v.tmod n := by
      have h := Int.tmod_lt_of_pos (-v) (show 0 < n by omega)
      rw [Int.neg_tmod] at h
      omega
    have e : fold v n = if v.tmod n < 0 then v.tmod n + n else v.tmod n := by simp [fold, h1]
    rw [e]
    clear e
    generalize hq : v.tmod n = q at *
    by_cases h0 : q < 0
    · rw [if_pos h0]
      have hd0 : decide (q < 0) = true := by simpa using h0
      go_enter Try.func19, Try.ntmps19
      go_wp2
      go_ret
      exact ⟨by go_num, rfl⟩
    · rw [if_neg h0]
      have hd0 : decide (q < 0) = false := by simpa using h0
      go_enter Try.func19, Try.ntmps19
      go_wp2
      go_ret
      exact ⟨rfl, rfl⟩
def tval (xs : List Int) (n : Nat) : Int := if n < xs.length then xs.getD n 0 else ((n : Int) * 7).tmod 11
def tnext (xs : List Int) (i : Nat) (n : Int) : Int := fold (tval xs i) n
end Go.Proofs.Ytalnhdeckdakfaa.Dev
