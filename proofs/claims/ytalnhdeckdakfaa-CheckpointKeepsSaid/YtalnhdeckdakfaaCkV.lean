/-
  safefile: Valid.
-/
import Derived.Test.YtalnhdeckdakfaaDevA
namespace Go.Proofs.Ytalnhdeckdakfaa.Dev
open Go.RowKit Go.Proofs
set_option linter.unusedVariables false
set_option linter.unusedSectionVars false
set_option linter.unusedSimpArgs false

def okn (c : UInt8) : Bool := (97 ≤ c && c ≤ 122) || (48 ≤ c && c ≤ 57) || c == 45
def vname (s : ByteArray) : Bool := decide (1 ≤ s.size) && decide (s.size ≤ 40) && s.data.toList.all okn
theorem okn_iff (c : UInt8) : okn c = true ↔ ((97 ≤ (c.toNat : Int) ∧ (c.toNat : Int) ≤ 122) ∨ (48 ≤ (c.toNat : Int) ∧ (c.toNat : Int) ≤ 57) ∨ (c.toNat : Int) = 45) := by
  unfold okn
  have h45 : c = 45 ↔ c.toNat = 45 := ⟨fun h => by rw [h]; rfl, fun h => by rw [← UInt8.toNat_inj, h]; rfl⟩
  simp only [Bool.or_eq_true, Bool.and_eq_true, decide_eq_true_eq, beq_iff_eq, h45, UInt8.le_iff_toNat_le, UInt8.reduceToNat]
  omega
theorem take_all_succn {l : List UInt8} {k : Nat} (hk : k < l.length) : (l.take (k + 1)).all okn = ((l.take k).all okn && okn (l.getD k 0)) := by
  rw [List.take_succ_eq_append_getElem hk, List.all_append]
  simp [List.getD_eq_getElem?_getD, List.getElem?_eq_getElem hk]
set_option maxHeartbeats 1000000 in
theorem sfValid_calls (s : ByteArray) (w : World) (hs : s.size ≤ 9223372036854775807) :
    Calls Try.prog 36 #[.string s] w fun e w' => e = .returned (.bool (vname s)) ∧ Below w.heap.size w w' := by
  by_cases h0 : s.size < 1
  · have hv : vname s = false := by unfold vname; simp; omega
    rw [hv]
    have hd : decide ((s.size : Int) < 1) = true := by simp; omega
    go_enter Try.func36, Try.ntmps36
    go_wp2
    go_ret
    exact ⟨rfl, Below.refl _ _⟩
  by_cases h1 : 40 < s.size
  · have hv : vname s = false := by unfold vname; simp; omega
    rw [hv]
    have hd : decide ((s.size : Int) < 1) = false := by simp; omega
    have hd1 : decide ((40 : Int) < (s.size : Int)) = true := by simp; omega
    go_enter Try.func36, Try.ntmps36
    go_wp2
    go_ret
    exact ⟨rfl, Below.refl _ _⟩
  have hd : decide ((s.size : Int) < 1) = false := by simp; omega
  have hd1 : decide ((40 : Int) < (s.size : Int)) = false := by simp; omega
  have hv : vname s = s.data.toList.all okn := by unfold vname; simp; omega
  rw [hv]
  clear hv
  generalize hr : s.data.toList.all okn = r
  have Hr := Lib.hid hr
  clear hr
  have kb := Lib.run_convert_string_bytes (P := Try.prog) w 9 32 5 s Try.underlying9 Try.underlying32 Try.underlying5
  have hB := bytes_below w 5 s
  have hc := fun j hj => Lib.bytesWorld_cell w 5 s j hj
  have hdl := data_len s
  go_enter Try.func36, Try.ntmps36
  go_wp2
  have HB := Lib.hid hB
  clear hB kb
  go_loop [16] (fun i => ∃ k : Nat, k ≤ s.size ∧ i = .int .i64 k ∧ (s.data.toList.take k).all okn = true) (fun i => s.size - (intOf i).toNat)
  case atStart => exact ⟨0, Nat.zero_le _, rfl, by simp⟩
  case round =>
    obtain ⟨k, hk, rfl, hall⟩ := hrel
    have Hall := Lib.hid hall
    clear hall
    by_cases hlt : k < s.size
    · have hck := hc k hlt
      have Hc := Lib.hid hc
      clear hc
      have Hts := Lib.hid (take_all_succn (l := s.data.toList) (k := k) (by omega))
      have Hok := Lib.hid (okn_iff (s.data.toList.getD k 0))
      generalize s.data.toList.getD k 0 = c at *
      by_cases hok : okn c = true
      · have h := Hok.out.1 hok
        have hcl := c.toNat_lt
        clear Hok
        have Hk2 : Hid (okn c = true) := hok
        clear hok
        go_wp2
        all_goals try (exfalso; simp at *; omega)
        all_goals (refine ⟨⟨k + 1, by omega, by go_num, by rw [Hts.out, Hall.out, Hk2.out]; rfl⟩, by simp [intOf]; omega⟩)
      · have h : ¬ _ := fun h => hok (Hok.out.2 h)
        have hcl := c.toNat_lt
        clear Hok
        have hok' : okn c = false := by simpa using hok
        have Hk2 := Lib.hid hok'
        clear hok hok'
        have hfin : r = false := by
          have h2 := Hts.out
          rw [Hk2.out, Bool.and_false] at h2
          rw [← Hr.out]
          cases h3 : s.data.toList.all okn with
          | false => rfl
          | true =>
            rw [List.all_eq_true] at h3
            have h4 : (s.data.toList.take (k + 1)).all okn = true := List.all_eq_true.2 fun x hx => h3 x (List.mem_of_mem_take hx)
            rw [h4] at h2
            cases h2
        have Hfin := Lib.hid hfin
        clear hfin
        go_wp2
        all_goals try (exfalso; simp at *; omega)
        all_goals go_ret
        all_goals exact ⟨by rw [Hfin.out]; rfl, HB.out⟩
    · have hkk : k = s.size := by omega
      have hfin : r = true := by
        have := Hall.out
        rw [List.take_of_length_le (by omega), Hr.out] at this
        exact this
      have Hfin := Lib.hid hfin
      clear hfin hkk
      go_wp2
      go_ret
      exact ⟨by rw [Hfin.out]; rfl, HB.out⟩
end Go.Proofs.Ytalnhdeckdakfaa.Dev
