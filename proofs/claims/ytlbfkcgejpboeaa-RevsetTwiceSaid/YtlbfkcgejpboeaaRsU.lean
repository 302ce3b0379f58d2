/-
  The law RevsetTwice, walked.
-/
import Derived.Test.YtlbfkcgejpboeaaRsP
namespace Go.Proofs.Ytlbfkcgejpboeaa.Rs
open Go.RowKit Go.Proofs Go.Sort
set_option linter.unusedVariables false
set_option linter.unusedSimpArgs false
set_option linter.unusedSectionVars false

set_option maxHeartbeats 4000000 in
set_option maxRecDepth 100000 in
theorem twice_big {w : World} {va : Value} {a : List R} {turn cut : Int} (ha : RdR w va a) (hd : (decide (40 < a.length)) = true) :
    Calls Try.prog 3 #[va, .int .i64 turn, .int .i64 cut] w fun e w' => e = .returned (.bool true) ∧ RowKit.Below w.heap.size w w' := by
  have Ha := Lib.hid ha
  have Hhd := Lib.hid hd
  obtain ⟨Aa, ca, rfl, _⟩ := ha
  clear hd
  go_enter Try.func3, Try.ntmps3
  have HB0 := Lib.hid (RowKit.Below.refl w.heap.size w)
  go_wp2_with fail
  have hb : RowKit.Below w.heap.size w (w.alloc (Obj.cells #[Value.slice Aa a.length ca] 22)) := (RowKit.Below.refl _ _).alloc (Nat.le_refl _) _
  have k0 : (w.alloc (Obj.cells #[Value.slice Aa a.length ca] 22)).cell? ⟨w.heap.size, 0, none⟩ = some (Value.slice Aa a.length ca) := by go_simp
  generalize w.alloc (Obj.cells #[Value.slice Aa a.length ca] 22) = w1 at *
  have HB1 := Lib.hid (below_trans HB0.out hb)
  clear hb HB0
  go_wp2_with fail
  refine (many1 (Ha.out.below HB1.out) k0).mono ?_
  rintro e _ ⟨rfl, rfl⟩
  rw [Hhd.out]
  clear k0
  go_wp2_with fail
  refine (awake_calls _).mono ?_
  rintro e w2 ⟨rfl, hb⟩
  have HB2 := Lib.hid (below_trans HB1.out hb)
  clear hb HB1
  go_wp2
  go_ret
  exact ⟨rfl, HB2.out⟩
set_option maxHeartbeats 4000000 in
set_option maxRecDepth 100000 in
theorem twice_nil {w : World} {va : Value} {a : List R} {turn cut : Int} (ha : RdR w va a) (hd : (decide (40 < a.length)) = false) (h0 : a.length = 0) :
    Calls Try.prog 3 #[va, .int .i64 turn, .int .i64 cut] w fun e w' => e = .returned (.bool true) ∧ RowKit.Below w.heap.size w w' := by
  have Ha := Lib.hid ha
  have Hhd := Lib.hid hd
  obtain ⟨Aa, ca, rfl, _⟩ := ha
  clear hd
  have z1 : ((a.length : Int) == 0) = true := by simp [h0]
  have z2 : (a.length == 0) = true := by simp [h0]
  clear h0
  go_enter Try.func3, Try.ntmps3
  have HB0 := Lib.hid (RowKit.Below.refl w.heap.size w)
  go_wp2_with fail
  have hb : RowKit.Below w.heap.size w (w.alloc (Obj.cells #[Value.slice Aa a.length ca] 22)) := (RowKit.Below.refl _ _).alloc (Nat.le_refl _) _
  have k0 : (w.alloc (Obj.cells #[Value.slice Aa a.length ca] 22)).cell? ⟨w.heap.size, 0, none⟩ = some (Value.slice Aa a.length ca) := by go_simp
  generalize w.alloc (Obj.cells #[Value.slice Aa a.length ca] 22) = w1 at *
  have HB1 := Lib.hid (below_trans HB0.out hb)
  clear hb HB0
  go_wp2_with fail
  refine (many1 (Ha.out.below HB1.out) k0).mono ?_
  rintro e _ ⟨rfl, rfl⟩
  rw [Hhd.out]
  clear k0
  go_wp2_with fail
  refine (awake_calls _).mono ?_
  rintro e w2 ⟨rfl, hb⟩
  have HB2 := Lib.hid (below_trans HB1.out hb)
  clear hb HB1
  go_wp2
  go_ret
  exact ⟨rfl, HB2.out⟩
set_option maxHeartbeats 4000000 in
set_option maxRecDepth 100000 in
theorem twice_turn {w : World} {va : Value} {a : List R} {turn cut : Int} (ha : RdR w va a) (hd : (decide (40 < a.length)) = false) (h0 : 0 < a.length) (h1 : turn < 0) :
    Calls Try.prog 3 #[va, .int .i64 turn, .int .i64 cut] w fun e w' => e = .returned (.bool true) ∧ RowKit.Below w.heap.size w w' := by
  have Ha := Lib.hid ha
  have Hhd := Lib.hid hd
  obtain ⟨Aa, ca, rfl, _⟩ := ha
  clear hd
  have z1 : ((a.length : Int) == 0) = false := by rw [beq_eq_false_iff_ne]; omega
  have z2 : (a.length == 0) = false := by rw [beq_eq_false_iff_ne]; omega
  have z3 : decide (turn < 0) = true := decide_eq_true h1
  go_enter Try.func3, Try.ntmps3
  have HB0 := Lib.hid (RowKit.Below.refl w.heap.size w)
  go_wp2_with fail
  have hb : RowKit.Below w.heap.size w (w.alloc (Obj.cells #[Value.slice Aa a.length ca] 22)) := (RowKit.Below.refl _ _).alloc (Nat.le_refl _) _
  have k0 : (w.alloc (Obj.cells #[Value.slice Aa a.length ca] 22)).cell? ⟨w.heap.size, 0, none⟩ = some (Value.slice Aa a.length ca) := by go_simp
  generalize w.alloc (Obj.cells #[Value.slice Aa a.length ca] 22) = w1 at *
  have HB1 := Lib.hid (below_trans HB0.out hb)
  clear hb HB0
  go_wp2_with fail
  refine (many1 (Ha.out.below HB1.out) k0).mono ?_
  rintro e _ ⟨rfl, rfl⟩
  rw [Hhd.out]
  clear k0
  go_wp2_with fail
  refine (awake_calls _).mono ?_
  rintro e w2 ⟨rfl, hb⟩
  have HB2 := Lib.hid (below_trans HB1.out hb)
  clear hb HB1
  go_wp2
  go_ret
  exact ⟨rfl, HB2.out⟩
set_option maxHeartbeats 4000000 in
set_option maxRecDepth 100000 in
theorem twice_cut {w : World} {va : Value} {a : List R} {turn cut : Int} (ha : RdR w va a) (hd : (decide (40 < a.length)) = false) (h0 : 0 < a.length) (h1 : 0 ≤ turn) (h2 : cut < 1) :
    Calls Try.prog 3 #[va, .int .i64 turn, .int .i64 cut] w fun e w' => e = .returned (.bool true) ∧ RowKit.Below w.heap.size w w' := by
  have Ha := Lib.hid ha
  have Hhd := Lib.hid hd
  obtain ⟨Aa, ca, rfl, _⟩ := ha
  clear hd
  have z1 : ((a.length : Int) == 0) = false := by rw [beq_eq_false_iff_ne]; omega
  have z2 : (a.length == 0) = false := by rw [beq_eq_false_iff_ne]; omega
  have z3 : decide (turn < 0) = false := decide_eq_false (by omega)
  have z4 : decide (cut < 1) = true := decide_eq_true h2
  go_enter Try.func3, Try.ntmps3
  have HB0 := Lib.hid (RowKit.Below.refl w.heap.size w)
  go_wp2_with fail
  have hb : RowKit.Below w.heap.size w (w.alloc (Obj.cells #[Value.slice Aa a.length ca] 22)) := (RowKit.Below.refl _ _).alloc (Nat.le_refl _) _
  have k0 : (w.alloc (Obj.cells #[Value.slice Aa a.length ca] 22)).cell? ⟨w.heap.size, 0, none⟩ = some (Value.slice Aa a.length ca) := by go_simp
  generalize w.alloc (Obj.cells #[Value.slice Aa a.length ca] 22) = w1 at *
  have HB1 := Lib.hid (below_trans HB0.out hb)
  clear hb HB0
  go_wp2_with fail
  refine (many1 (Ha.out.below HB1.out) k0).mono ?_
  rintro e _ ⟨rfl, rfl⟩
  rw [Hhd.out]
  clear k0
  go_wp2_with fail
  refine (awake_calls _).mono ?_
  rintro e w2 ⟨rfl, hb⟩
  have HB2 := Lib.hid (below_trans HB1.out hb)
  clear hb HB1
  go_wp2
  go_ret
  exact ⟨rfl, HB2.out⟩
set_option maxHeartbeats 4000000 in
set_option maxRecDepth 100000 in
theorem twice_no {w : World} {va : Value} {a : List R} {turn cut : Int} (ha : RdR w va a) (hd : (decide (40 < a.length)) = false) (hl : a.length ≤ 40) (h0 : 0 < a.length) (h1 : 0 ≤ turn) (h2 : 1 ≤ cut) (hs : ¬ ∀ r ∈ a, Sound r) :
    Calls Try.prog 3 #[va, .int .i64 turn, .int .i64 cut] w fun e w' => e = .returned (.bool true) ∧ RowKit.Below w.heap.size w w' := by
  have Ha := Lib.hid ha
  have Hhd := Lib.hid hd
  have Hhs := Lib.hid hs
  obtain ⟨Aa, ca, rfl, _⟩ := ha
  clear hd hs
  have z1 : ((a.length : Int) == 0) = false := by rw [beq_eq_false_iff_ne]; omega
  have z2 : (a.length == 0) = false := by rw [beq_eq_false_iff_ne]; omega
  have z3 : decide (turn < 0) = false := decide_eq_false (by omega)
  have z4 : decide (cut < 1) = false := decide_eq_false (by omega)
  go_enter Try.func3, Try.ntmps3
  have HB0 := Lib.hid (RowKit.Below.refl w.heap.size w)
  go_wp2_with fail
  have hb : RowKit.Below w.heap.size w (w.alloc (Obj.cells #[Value.slice Aa a.length ca] 22)) := (RowKit.Below.refl _ _).alloc (Nat.le_refl _) _
  have k0 : (w.alloc (Obj.cells #[Value.slice Aa a.length ca] 22)).cell? ⟨w.heap.size, 0, none⟩ = some (Value.slice Aa a.length ca) := by go_simp
  generalize w.alloc (Obj.cells #[Value.slice Aa a.length ca] 22) = w1 at *
  have HB1 := Lib.hid (below_trans HB0.out hb)
  clear hb HB0
  go_wp2_with fail
  refine (many1 (Ha.out.below HB1.out) k0).mono ?_
  rintro e _ ⟨rfl, rfl⟩
  rw [Hhd.out]
  clear k0
  go_wp2_with fail
  refine (normalize_no (Ha.out.below HB1.out) Hhs.out).mono ?_
  rintro e w2 ⟨rfl, hb⟩
  have HB2 := Lib.hid (below_trans HB1.out hb)
  clear hb HB1
  go_wp2_with fail
  refine (awake_calls _).mono ?_
  rintro e w3 ⟨rfl, hb⟩
  have HB3 := Lib.hid (below_trans HB2.out hb)
  clear hb HB2
  go_wp2
  go_ret
  exact ⟨rfl, HB3.out⟩
theorem RdR.block2 {w : World} {g : Nat} {x1 y1 x2 y2 : Int} (h : w.heap[g]? = some (.cells #[.int .i64 x1, .int .i64 y1, .int .i64 x2, .int .i64 y2] 29 (0, 0))) : RdR w (.slice (some ⟨g, 0, none⟩) 2 2) [(x1, y1), (x2, y2)] :=
  RdR.cells (rs := [(x1, y1), (x2, y2)]) h (by simp)
def pieceT (cut : Int) (x : R) : List R := (if x.1 < cut ∧ cut ≤ x.2 then [(cut, x.2), (x.1, cut - 1)] else []) ++ [x]
def rotT (a : List R) (tq k : Nat) : R := a.getD ((k + tq) % a.length) (0, 0)
def mT (a : List R) (tq : Nat) (cut : Int) (k : Nat) : List R := (List.range k).flatMap fun i => pieceT cut (rotT a tq i)
theorem mT_succ (a : List R) (tq : Nat) (cut : Int) (k : Nat) : mT a tq cut (k + 1) = mT a tq cut k ++ pieceT cut (rotT a tq k) := by
  simp [mT, List.range_succ]
theorem mT_len (a : List R) (tq : Nat) (cut : Int) : ∀ k, (mT a tq cut k).length ≤ 3 * k
  | 0 => by simp [mT]
  | k + 1 => by
    have ih := mT_len a tq cut k
    rw [mT_succ, List.length_append]
    have : (pieceT cut (rotT a tq k)).length ≤ 3 := by unfold pieceT; split <;> simp
    omega
theorem rotT_mem {a : List R} {tq k : Nat} (h : 0 < a.length) : rotT a tq k ∈ a := getD_mem (Nat.mod_lt _ h)
theorem piece_in {cut : Int} {x r : R} (h : r ∈ pieceT cut x) : x.1 ≤ r.1 ∧ r.2 ≤ x.2 ∧ (r = x ∨ (x.1 < cut ∧ cut ≤ x.2 ∧ (r = (cut, x.2) ∨ r = (x.1, cut - 1)))) := by
  unfold pieceT at h
  split at h
  · rename_i hc
    simp at h
    rcases h with rfl | rfl | rfl
    · exact ⟨by show x.1 ≤ cut; omega, by show x.2 ≤ x.2; omega, .inr ⟨hc.1, hc.2, .inl rfl⟩⟩
    · exact ⟨by show x.1 ≤ x.1; omega, by show cut - 1 ≤ x.2; omega, .inr ⟨hc.1, hc.2, .inr rfl⟩⟩
    · exact ⟨by omega, by omega, .inl rfl⟩
  · simp at h
    subst h
    exact ⟨by omega, by omega, .inl rfl⟩
theorem mT_sound {a : List R} {tq : Nat} {cut : Int} (h : 0 < a.length) (hc : 1 ≤ cut) (hs : ∀ r ∈ a, Sound r) (k : Nat) : ∀ r ∈ mT a tq cut k, Sound r := by
  intro r hr
  obtain ⟨i, _, hi⟩ := List.mem_flatMap.1 hr
  have hx := hs _ (rotT_mem (tq := tq) (k := i) h)
  obtain ⟨p1, p2, p3⟩ := piece_in hi
  have := hx.1; have := hx.2.1; have := hx.2.2
  rcases p3 with e | ⟨e1, e2, e | e⟩
  · rw [e]; exact hx
  · rw [e]; exact ⟨hc, e2, by show (rotT a tq i).2 ≤ _; omega⟩
  · rw [e]; exact ⟨by show 1 ≤ (rotT a tq i).1; omega, by show (rotT a tq i).1 ≤ cut - 1; omega, by show cut - 1 ≤ _; omega⟩
theorem mT_mem {a : List R} {tq : Nat} {cut : Int} (h : 0 < a.length) (n : Int) : mem (mT a tq cut a.length) n ↔ mem a n := by
  constructor
  · rintro ⟨r, hr, r1, r2⟩
    obtain ⟨i, _, hi⟩ := List.mem_flatMap.1 hr
    obtain ⟨p1, p2, _⟩ := piece_in hi
    exact ⟨_, rotT_mem (tq := tq) (k := i) h, by omega, by omega⟩
  · rintro ⟨r, hr, r1, r2⟩
    obtain ⟨j, hj, rfl⟩ := List.mem_iff_getElem.1 hr
    refine ⟨a[j], List.mem_flatMap.2 ⟨(j + (a.length - tq % a.length)) % a.length, List.mem_range.2 (Nat.mod_lt _ h), ?_⟩, r1, r2⟩
    have e : ((j + (a.length - tq % a.length)) % a.length + tq) % a.length = j := by
      have h1 : tq % a.length < a.length := Nat.mod_lt _ h
      rw [Nat.mod_add_mod]
      have h2 : j + (a.length - tq % a.length) + tq = j + a.length * (1 + tq / a.length) := by
        have := Nat.mod_add_div tq a.length
        rw [Nat.mul_add, Nat.mul_one]
        omega
      rw [h2, Nat.add_mul_mod_self_left, Nat.mod_eq_of_lt hj]
    have e2 : rotT a tq ((j + (a.length - tq % a.length)) % a.length) = a[j] := by
      unfold rotT
      rw [e, List.getD_eq_getElem?_getD, List.getElem?_eq_getElem hj]; rfl
    rw [e2]
    unfold pieceT
    simp
theorem norm_norm {a m s t : List R} (h : Norm a s) (k : Norm m t) (hm : ∀ n, mem m n ↔ mem a n) : s = t :=
  IsSet.ext h.1 k.1 fun n => by rw [h.2.1, k.2.1, hm]
set_option maxHeartbeats 4000000 in
set_option maxRecDepth 100000 in
theorem twice_yes {w : World} {va : Value} {a : List R} {turn cut : Int} (ha : RdR w va a) (hd : (decide (40 < a.length)) = false) (hl : a.length ≤ 40) (h0 : 0 < a.length) (h1 : 0 ≤ turn) (h2 : 1 ≤ cut) (hs : ∀ r ∈ a, Sound r) (ht : turn ≤ 9223372036854775807) :
    Calls Try.prog 3 #[va, .int .i64 turn, .int .i64 cut] w fun e w' => e = .returned (.bool true) ∧ RowKit.Below w.heap.size w w' := by
  have Ha := Lib.hid ha
  have Hhd := Lib.hid hd
  have Hhs := Lib.hid hs
  obtain ⟨Aa, ca, rfl, _⟩ := ha
  clear hd hs
  have z1 : ((a.length : Int) == 0) = false := by rw [beq_eq_false_iff_ne]; omega
  have z2 : (a.length == 0) = false := by rw [beq_eq_false_iff_ne]; omega
  have z3 : decide (turn < 0) = false := decide_eq_false (by omega)
  have z4 : decide (cut < 1) = false := decide_eq_false (by omega)
  obtain ⟨tn, htn⟩ : ∃ tn : Nat, turn = tn := ⟨turn.toNat, by omega⟩
  subst htn
  clear h1
  obtain ⟨tq, htq⟩ : ∃ tq : Nat, tn % a.length = tq := ⟨_, rfl⟩
  have htq2 : tq < a.length := by rw [← htq]; exact Nat.mod_lt _ h0
  have Htq := Lib.hid htq
  clear htq
  have Hsuc := Lib.hid (mT_succ a tq cut)
  have Hlen := Lib.hid (mT_len a tq cut)
  have Hsnd := Lib.hid (fun k => mT_sound (tq := tq) h0 h2 Hhs.out k)
  have Hmem := Lib.hid (fun n => mT_mem (tq := tq) (cut := cut) h0 n)
  go_enter Try.func3, Try.ntmps3
  have HB0 := Lib.hid (RowKit.Below.refl w.heap.size w)
  go_wp2_with fail
  have hb : RowKit.Below w.heap.size w (w.alloc (Obj.cells #[Value.slice Aa a.length ca] 22)) := (RowKit.Below.refl _ _).alloc (Nat.le_refl _) _
  have k0 : (w.alloc (Obj.cells #[Value.slice Aa a.length ca] 22)).cell? ⟨w.heap.size, 0, none⟩ = some (Value.slice Aa a.length ca) := by go_simp
  generalize w.alloc (Obj.cells #[Value.slice Aa a.length ca] 22) = w1 at *
  have HB1 := Lib.hid (below_trans HB0.out hb)
  clear hb HB0
  go_wp2_with fail
  refine (many1 (Ha.out.below HB1.out) k0).mono ?_
  rintro e _ ⟨rfl, rfl⟩
  rw [Hhd.out]
  clear k0
  go_wp2_with fail
  refine (normalize_yes (Ha.out.below HB1.out) Hhs.out (by omega)).mono ?_
  rintro e w2 ⟨z, s, rfl, hn, hr, hb⟩
  have HN := Lib.hid hn
  clear hn
  have HZ_2 := Lib.hid hr
  have HB2 := Lib.hid (below_trans HB1.out hb)
  clear hb HB1 hr
  obtain ⟨Az, cz, he, h1z, h2z, _⟩ := HZ_2.out
  subst he
  go_wp2
  go_loopw [9, 47] (fun c i wr => ∃ k : Nat, k ≤ a.length ∧ i = .int .i64 k ∧ wr.ownsRow w2.heap.size 29 2 c (mT a tq cut k).length (cR (mT a tq cut k)) ∧ RowKit.Below w2.heap.size w2 wr) (fun _ i _ => a.length - (intOf i).toNat)
  case atStart => exact ⟨0, Nat.zero_le _, rfl, own_nil _ _ _ _, RowKit.Below.refl _ _⟩
  case round =>
    obtain ⟨k, hk, rfl, ho, hb⟩ := hrel
    have HO := Lib.hid ho
    have HBk := Lib.hid hb
    have HBt := Lib.hid (below_trans HB2.out hb)
    obtain ⟨A, c, rfl⟩ := own_form ho
    have hml := Hlen.out k
    have hsz := hb.size
    clear ho hb
    by_cases hlt : k < a.length
    · obtain ⟨g1, o1, e1, hc1⟩ := (Ha.out.below HBt.out).at_ hlt
      subst e1
      have hm1 : ((tn : Int) % (a.length : Int)) = (tq : Int) := by rw [← Int.natCast_emod, Htq.out]
      obtain ⟨q, hq⟩ : ∃ q : Nat, (k + tq) % a.length = q := ⟨_, rfl⟩
      have hq2 : q < a.length := by rw [← hq]; exact Nat.mod_lt _ h0
      have hm2 : (((k : Int) + (tq : Int)) % (a.length : Int)) = (q : Int) := by rw [← hq, Int.natCast_emod, Int.natCast_add]
      have x0 := (hc1 q hq2).1
      have x1 := (hc1 q hq2).2
      have hrot : a.getD q (0, 0) = rotT a tq k := by unfold rotT; rw [hq]
      rw [hrot] at x0 x1
      have hS := Hhs.out _ (rotT_mem (tq := tq) (k := k) h0)
      have Hst := Lib.hid (Hsuc.out k)
      unfold pieceT at Hst
      clear hc1 hrot hq
      generalize rotT a tq k = r at *
      obtain ⟨x, y⟩ := r
      obtain ⟨s1, s2, s3⟩ := hS
      simp only at s1 s2 s3
      have hnb : ∀ n, (Value.slice A n c).ownBlock ≠ some wr.heap.size := fun n he => by
        have := (HO.out.lt wr.heap.size (by cases A <;> exact he)).2; omega
      have Hnb := Lib.hid hnb
      generalize mT a tq cut k = F at *
      by_cases hcut : x < cut ∧ cut ≤ y
      · have d1 : decide (x < cut) = true := decide_eq_true hcut.1
        have d2 : decide (cut ≤ y) = true := decide_eq_true hcut.2
        have hcy := hcut.2
        rw [if_pos hcut] at Hst
        obtain ⟨F2, hF2⟩ : ∃ F2, F ++ [(cut, y), (x, cut - 1)] = F2 := ⟨_, rfl⟩
        have hF2l : F2.length ≤ F.length + 2 := by rw [← hF2]; simp
        have HF2 := Lib.hid hF2
        clear hcut hnb hF2
        go_wp2_with (first
          | (at_builtin; refine wpList_append_R w2.heap.size rfl (.tmp 72) (.tmp 82) rfl (.slice A F.length c) _ F [(cut, y), (x, cut - 1)] rfl rfl ((HO.out.alloc _).alloc _) (by go_simp; exact RdR.block2 (by have := heap_alloc_new (wr.alloc (Obj.cells #[Value.int IntKind.i64 x, Value.int IntKind.i64 y] 29)) (Obj.cells #[Value.int IntKind.i64 cut, Value.int IntKind.i64 y, Value.int IntKind.i64 x, Value.int IntKind.i64 (cut - 1)] 29); simpa using this)) (by simp; omega) (by simp; omega) ?_; intro v1 w1 ho hg; rw [HF2.out] at ho; have HO1 := Lib.hid ho; have HG1 := Lib.hid hg; have y0 : w1.cell? ⟨wr.heap.size, 0, none⟩ = some (.int .i64 x) := (hg.cell_far _ (by simp; omega) (Ne.symm (Hnb.out _))).trans (by go_simp); have y1 : w1.cell? ⟨wr.heap.size, 1, none⟩ = some (.int .i64 y) := (hg.cell_far _ (by simp; omega) (Ne.symm (Hnb.out _))).trans (by go_simp); have hs1 : wr.heap.size ≤ w1.heap.size := (by have := hg.size; simp at this; omega); clear ho hg; obtain ⟨A1, c1, he1⟩ := own_form HO1.out; subst he1)
          | (at_builtin; refine wpList_append_R w2.heap.size rfl (.tmp 84) (.tmp 86) rfl _ _ F2 [(x, y)] rfl rfl (HO1.out.alloc _) (RdR.block (heap_alloc_new w1 _)) (by simp; omega) (by simp; omega) ?_; intro v2 w2 ho hg; have HO2 := Lib.hid ho; have HG2 := Lib.hid hg; clear ho hg))
        refine ⟨⟨k + 1, by omega, by go_num, ?_, ?_⟩, by simp [intOf]; omega⟩
        · rw [Hst.out, ← List.append_assoc, HF2.out]
          exact HO2.out
        · exact below_of_grown ((below_of_grown ((HBk.out.alloc hsz _).alloc (by simp; omega) _) ((HO.out.alloc _).alloc _) HG1.out).alloc (by omega) _) (HO1.out.alloc _) HG2.out
      · have d1 : (decide (x < cut) && decide (cut ≤ y)) = false := by
          rw [Bool.and_eq_false_iff, decide_eq_false_iff_not, decide_eq_false_iff_not]; omega
        rw [if_neg hcut, List.nil_append] at Hst
        by_cases hxc : x < cut
        · have d2 : decide (x < cut) = true := decide_eq_true hxc
          have d3 : decide (cut ≤ y) = false := decide_eq_false (by omega)
          clear hcut hnb d1 hxc
          go_wp2_with (at_builtin; refine wpList_append_R w2.heap.size rfl (.tmp 84) (.tmp 86) rfl _ _ F [(x, y)] rfl rfl ((HO.out.alloc _).alloc _) (by go_simp; exact RdR.block (by have := heap_alloc_new (wr.alloc (Obj.cells #[Value.int IntKind.i64 x, Value.int IntKind.i64 y] 29)) (Obj.cells #[Value.int IntKind.i64 x, Value.int IntKind.i64 y] 29); simpa using this)) (by simp; omega) (by simp; omega) ?_; intro v2 w2 ho hg; have HO2 := Lib.hid ho; have HG2 := Lib.hid hg; clear ho hg)
          refine ⟨⟨k + 1, by omega, by go_num, by rw [Hst.out]; exact HO2.out, ?_⟩, by simp [intOf]; omega⟩
          exact below_of_grown ((HBk.out.alloc hsz _).alloc (by simp; omega) _) ((HO.out.alloc _).alloc _) HG2.out
        · have d2 : decide (x < cut) = false := decide_eq_false hxc
          clear hcut hnb d1 hxc
          go_wp2_with (at_builtin; refine wpList_append_R w2.heap.size rfl (.tmp 84) (.tmp 86) rfl _ _ F [(x, y)] rfl rfl ((HO.out.alloc _).alloc _) (by go_simp; exact RdR.block (by have := heap_alloc_new (wr.alloc (Obj.cells #[Value.int IntKind.i64 x, Value.int IntKind.i64 y] 29)) (Obj.cells #[Value.int IntKind.i64 x, Value.int IntKind.i64 y] 29); simpa using this)) (by simp; omega) (by simp; omega) ?_; intro v2 w2 ho hg; have HO2 := Lib.hid ho; have HG2 := Lib.hid hg; clear ho hg)
          refine ⟨⟨k + 1, by omega, by go_num, by rw [Hst.out]; exact HO2.out, ?_⟩, by simp [intOf]; omega⟩
          exact below_of_grown ((HBk.out.alloc hsz _).alloc (by simp; omega) _) ((HO.out.alloc _).alloc _) HG2.out
    · obtain rfl : k = a.length := by omega
      have HRm := Lib.hid (RdR.own HO.out)
      have HZm := Lib.hid (HZ_2.out.below HBk.out)
      have Hms := Lib.hid (Hsnd.out a.length)
      clear HO
      go_wp2_with fail
      refine (normalize_yes HRm.out Hms.out (by omega)).mono ?_
      rintro e wA ⟨zt, t, rfl, hn, hr, hb⟩
      have het : s = t := norm_norm HN.out hn Hmem.out
      subst het
      have HT := Lib.hid hr
      have HZA := Lib.hid (HZm.out.below hb)
      have HBA := Lib.hid (below_trans HBt.out hb)
      have hsl := HN.out.2.2
      clear hn hr hb HZm HRm
      go_wp2_with fail
      refine (normalize_yes HZA.out HN.out.1.1 (by omega)).mono ?_
      rintro e wB ⟨zu, u, rfl, hn, hr, hb⟩
      have heu : s = u := (IsSet.ext hn.1 HN.out.1 hn.2.1).symm
      subst heu
      have HU := Lib.hid hr
      have HTB := Lib.hid (HT.out.below hb)
      have HZB := Lib.hid (HZA.out.below hb)
      have HBB := Lib.hid (below_trans HBA.out hb)
      clear hn hr hb HZA HT HBA
      go_wp2_with fail
      refine (same_is HZB.out HTB.out rfl).mono ?_
      rintro e wC ⟨rfl, hb⟩
      have HUC := Lib.hid (HU.out.below hb)
      have HZC := Lib.hid (HZB.out.below hb)
      have HBC := Lib.hid (below_trans HBB.out hb)
      clear hb HZB HTB HU HBB
      go_wp2_with fail
      refine (same_is HZC.out HUC.out rfl).mono ?_
      rintro e wD ⟨rfl, hb⟩
      have HZD := Lib.hid (HZC.out.below hb)
      have HBD := Lib.hid (below_trans HBC.out hb)
      clear hb HZC HUC HBC
      go_wp2_with fail
      refine (check_is HZD.out (chkE_yes HN.out.1)).mono ?_
      rintro e wE ⟨rfl, hb⟩
      have HBE := Lib.hid (below_trans HBD.out hb)
      clear hb HZD HBD
      go_wp2_with fail
      refine (awake_calls _).mono ?_
      rintro e wF ⟨rfl, hb⟩
      have HBF := Lib.hid (below_trans HBE.out hb)
      clear hb HBE
      go_wp2
      go_ret
      exact ⟨rfl, HBF.out⟩
theorem twice_walk {w : World} {va : Value} {a : List R} {turn cut : Int} (ha : RdR w va a) (w1 : (Lit.int .i64 turn).wf = true) :
    Calls Try.prog 3 #[va, .int .i64 turn, .int .i64 cut] w fun e w' => e = .returned (.bool true) ∧ RowKit.Below w.heap.size w w' := by
  have e1 : IntKind.i64.max = 9223372036854775807 := rfl
  have ht : turn ≤ 9223372036854775807 := by
    have := w1
    simp [Lit.wf, e1] at this
    omega
  by_cases hbig : 40 < a.length
  · exact twice_big ha (by simpa using hbig)
  · have hd : decide (40 < a.length) = false := decide_eq_false hbig
    rcases Nat.eq_zero_or_pos a.length with h0 | h0
    · exact twice_nil ha hd h0
    · by_cases h1 : turn < 0
      · exact twice_turn ha hd h0 h1
      · by_cases h2 : cut < 1
        · exact twice_cut ha hd h0 (by omega) h2
        · by_cases hs : ∀ r ∈ a, Sound r
          · exact twice_yes ha hd (by omega) h0 (by omega) (by omega) hs ht
          · exact twice_no ha hd (by omega) h0 (by omega) (by omega) hs
end Go.Proofs.Ytlbfkcgejpboeaa.Rs
