/-
  The device's small functions: what each computes, over any world.
-/
import Derived.Test.YtalnhdeckdakfaaProg
import Derived.WalkKit
import Derived.KernelRfl
import Derived.Deep.QuietTactic
import Derived.BigQuiet
import Derived.Lib.Hide
import Derived.Lib.ConvBytes
import Derived.Test.YtalnhdeckdakfaaDevPlain
namespace Go.Proofs.Ytalnhdeckdakfaa.Dev
open Go.RowKit Go.Proofs
set_option linter.unusedVariables false
set_option linter.unusedSimpArgs false

/-- The block of a device. -/
def DevB (w : World) (d : Nat) (m1 m2 pv : Value) (fuse : Int) (down : Bool) : Prop :=
  w.heap[d]? = some (.cells #[m1, m2, pv, .int .i64 fuse, .bool down] 77 (0, 0))
theorem blk_cell {w : World} {g : Nat} {cs : Array Value} {t : TypeId} (h : w.heap[g]? = some (.cells cs t (0, 0))) (i : Nat) : w.cell? ⟨g, i, none⟩ = cs[i]? := by
  simp [World.cell?, h]
theorem blk_frozen {w : World} {g : Nat} {cs : Array Value} {t : TypeId} (h : w.heap[g]? = some (.cells cs t (0, 0))) (i : Nat) : w.frozen? ⟨g, i, none⟩ = false := by
  simp [World.frozen?, h]
section
variable {w : World} {d : Nat} {m1 m2 pv : Value} {fuse : Int} {down : Bool}
theorem DevB.c0 (h : DevB w d m1 m2 pv fuse down) : w.cell? ⟨d, 0, none⟩ = some m1 := (blk_cell h 0).trans rfl
theorem DevB.c1 (h : DevB w d m1 m2 pv fuse down) : w.cell? ⟨d, 1, none⟩ = some m2 := (blk_cell h 1).trans rfl
theorem DevB.c2 (h : DevB w d m1 m2 pv fuse down) : w.cell? ⟨d, 2, none⟩ = some pv := (blk_cell h 2).trans rfl
theorem DevB.c3 (h : DevB w d m1 m2 pv fuse down) : w.cell? ⟨d, 3, none⟩ = some (.int .i64 fuse) := (blk_cell h 3).trans rfl
theorem DevB.c4 (h : DevB w d m1 m2 pv fuse down) : w.cell? ⟨d, 4, none⟩ = some (.bool down) := (blk_cell h 4).trans rfl
theorem DevB.fz (h : DevB w d m1 m2 pv fuse down) (i : Nat) : w.frozen? ⟨d, i, none⟩ = false := blk_frozen h i
end

theorem burn_zero {w : World} {d : Nat} {m1 m2 pv : Value} {down : Bool} (h : DevB w d m1 m2 pv 0 down) :
    Calls Try.prog 56 #[.pointer (some ⟨d, 0, none⟩)] w fun e w' => e = .returned (.int .i64 0) ∧ w = w' := by
  have c3 := h.c3
  go_enter Try.func56, Try.ntmps56
  go_wp2
  go_ret
  exact ⟨rfl, rfl⟩

theorem burn_more {w : World} {d : Nat} {m1 m2 pv : Value} {down : Bool} {n : Int} (h : DevB w d m1 m2 pv n down) (h1 : 2 ≤ n) (h2 : n ≤ 1000000) :
    Calls Try.prog 56 #[.pointer (some ⟨d, 0, none⟩)] w fun e w' => e = .returned (.int .i64 0) ∧ w' = w.setCell ⟨d, 3, none⟩ (.int .i64 (n - 1)) := by
  have c3 := h.c3
  have f3 := h.fz 3
  have hn : (n == 0) = false := by simp; omega
  have hn1 : decide (0 < n - 1) = true := by simp; omega
  go_enter Try.func56, Try.ntmps56
  go_wp2
  go_ret
  exact ⟨rfl, rfl⟩

theorem burn_out {w : World} {d : Nat} {m1 m2 pv : Value} {down : Bool} (h : DevB w d m1 m2 pv 1 down) :
    Calls Try.prog 56 #[.pointer (some ⟨d, 0, none⟩)] w fun e w' => e = .returned (.int .i64 303) ∧ w' = (w.setCell ⟨d, 3, none⟩ (.int .i64 0)).setCell ⟨d, 4, none⟩ (.bool true) := by
  have c3 := h.c3
  have c4 := h.c4
  have f3 := h.fz 3
  have f4 := h.fz 4
  go_enter Try.func56, Try.ntmps56
  go_wp2
  go_ret
  exact ⟨rfl, rfl⟩

theorem bytes_below (w : World) (e : TypeId) (s : ByteArray) : Below w.heap.size w (Lib.bytesWorld w e s) :=
  ⟨rfl, rfl, rfl, by rw [Lib.bytesWorld_size]; omega, fun i hi => Lib.bytesWorld_at_old w e s i hi⟩
theorem okc_iff (c : UInt8) : okc c = true ↔ ((97 ≤ (c.toNat : Int) ∧ (c.toNat : Int) ≤ 122) ∨ (48 ≤ (c.toNat : Int) ∧ (c.toNat : Int) ≤ 57) ∨ (c.toNat : Int) = 46 ∨ (c.toNat : Int) = 45) := by
  unfold okc
  have h46 : c = 46 ↔ c.toNat = 46 := ⟨fun h => by rw [h]; rfl, fun h => by rw [← UInt8.toNat_inj, h]; rfl⟩
  have h45 : c = 45 ↔ c.toNat = 45 := ⟨fun h => by rw [h]; rfl, fun h => by rw [← UInt8.toNat_inj, h]; rfl⟩
  simp only [Bool.or_eq_true, Bool.and_eq_true, decide_eq_true_eq, beq_iff_eq, h46, h45, UInt8.le_iff_toNat_le, UInt8.reduceToNat]
  omega
theorem take_all_succ {l : List UInt8} {k : Nat} (hk : k < l.length) : (l.take (k + 1)).all okc = ((l.take k).all okc && okc (l.getD k 0)) := by
  rw [List.take_succ_eq_append_getElem hk, List.all_append]
  simp [List.getD_eq_getElem?_getD, List.getElem?_eq_getElem hk]
theorem data_len (s : ByteArray) : s.data.toList.length = s.size := by rw [Array.length_toList]; rfl

set_option maxHeartbeats 1000000 in
theorem valid_calls (s : ByteArray) (w : World) (hs : s.size ≤ 9223372036854775807) :
    Calls Try.prog 68 #[.string s] w fun e w' => e = .returned (.bool (valid s)) ∧ Below w.heap.size w w' := by
  by_cases h0 : s.size < 1
  · have hv : valid s = false := by unfold valid; simp; omega
    rw [hv]
    have hd : decide ((s.size : Int) < 1) = true := by simp; omega
    go_enter Try.func68, Try.ntmps68
    go_wp2
    go_ret
    exact ⟨rfl, Below.refl _ _⟩
  by_cases h1 : 64 < s.size
  · have hv : valid s = false := by unfold valid; simp; omega
    rw [hv]
    have hd : decide ((s.size : Int) < 1) = false := by simp; omega
    have hd1 : decide ((64 : Int) < (s.size : Int)) = true := by simp; omega
    go_enter Try.func68, Try.ntmps68
    go_wp2
    go_ret
    exact ⟨rfl, Below.refl _ _⟩
  have hd : decide ((s.size : Int) < 1) = false := by simp; omega
  have hd1 : decide ((64 : Int) < (s.size : Int)) = false := by simp; omega
  have hv : valid s = s.data.toList.all okc := by unfold valid; simp; omega
  rw [hv]
  clear hv
  generalize hr : s.data.toList.all okc = r
  have Hr := Lib.hid hr
  clear hr
  have kb := Lib.run_convert_string_bytes (P := Try.prog) w 9 32 5 s Try.underlying9 Try.underlying32 Try.underlying5
  have hB := bytes_below w 5 s
  have hc := fun j hj => Lib.bytesWorld_cell w 5 s j hj
  have hdl := data_len s
  go_enter Try.func68, Try.ntmps68
  go_wp2
  have HB := Lib.hid hB
  clear hB kb
  go_loop [16] (fun i => ∃ k : Nat, k ≤ s.size ∧ i = .int .i64 k ∧ (s.data.toList.take k).all okc = true) (fun i => s.size - (intOf i).toNat)
  case atStart => exact ⟨0, Nat.zero_le _, rfl, by simp⟩
  case round =>
    obtain ⟨k, hk, rfl, hall⟩ := hrel
    have Hall := Lib.hid hall
    clear hall
    by_cases hlt : k < s.size
    · have hck := hc k hlt
      have Hc := Lib.hid hc
      clear hc
      have Hts := Lib.hid (take_all_succ (l := s.data.toList) (k := k) (by omega))
      have Hok := Lib.hid (okc_iff (s.data.toList.getD k 0))
      generalize s.data.toList.getD k 0 = c at *
      by_cases hok : okc c = true
      · have h := Hok.out.1 hok
        have hcl := c.toNat_lt
        clear Hok
        have Hk2 : Hid (okc c = true) := hok
        clear hok
        go_wp2
        all_goals try (exfalso; simp at *; omega)
        all_goals (refine ⟨⟨k + 1, by omega, by go_num, by rw [Hts.out, Hall.out, Hk2.out]; rfl⟩, by simp [intOf]; omega⟩)
      · have h : ¬ _ := fun h => hok (Hok.out.2 h)
        have hcl := c.toNat_lt
        clear Hok
        have hok' : okc c = false := by simpa using hok
        have Hk2 := Lib.hid hok'
        clear hok hok'
        have hfin : r = false := by
          have h2 := Hts.out
          rw [Hk2.out, Bool.and_false] at h2
          rw [← Hr.out]
          cases h3 : s.data.toList.all okc with
          | false => rfl
          | true =>
            rw [List.all_eq_true] at h3
            have h4 : (s.data.toList.take (k + 1)).all okc = true := List.all_eq_true.2 fun x hx => h3 x (List.mem_of_mem_take hx)
            rw [h4] at h2
            cases h2
        have Hfin := Lib.hid hfin
        clear hfin
        go_wp2
        all_goals try (exfalso; simp at *; omega)
        all_goals go_ret
        all_goals exact ⟨by rw [Hfin.out]; rfl, HB.out⟩
    · have hkk : k = s.size := by omega
      have hfin : r = true := by
        have := Hall.out
        rw [List.take_of_length_le (by omega), Hr.out] at this
        exact this
      have Hfin := Lib.hid hfin
      clear hfin hkk
      go_wp2
      go_ret
      exact ⟨by rw [Hfin.out]; rfl, HB.out⟩
end Go.Proofs.Ytalnhdeckdakfaa.Dev
