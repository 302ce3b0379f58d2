/-
  Plain: the two files of a checkpoint have names that are valid and differ.
-/
import Derived.Test.YtalnhdeckdakfaaCkD
namespace Go.Proofs.Ytalnhdeckdakfaa.Dev
open Co
set_option linter.unusedVariables false
set_option linter.unusedSectionVars false
variable [Bs]

theorem cfile_mod (k : ByteArray) (t : Nat) : cfile k t = cfile k (t % 2) := by simp [cfile]
theorem cfile_data (k : ByteArray) (t : Nat) : (cfile k t).data.toList = k.data.toList ++ [46, 99, 104, 101, 99, 107, if t % 2 = 0 then 48 else 49] := by
  unfold cfile
  rw [ByteArray.data_append, Array.toList_append]
  split <;> rfl
theorem cfile_ne (k : ByteArray) {s t : Nat} (h : s % 2 ≠ t % 2) : cfile k s ≠ cfile k t := fun e => by
  have h1 := congrArg (fun b => b.data.toList) e
  simp only [cfile_data, List.append_cancel_left_eq, List.cons.injEq, true_and, and_true] at h1
  rcases Nat.mod_two_eq_zero_or_one s with a | a <;> rcases Nat.mod_two_eq_zero_or_one t with b | b <;> simp [a, b] at h h1
theorem okn_okc {c : UInt8} (h : okn c = true) : okc c = true := by
  unfold okn at h
  unfold okc
  simp only [Bool.or_eq_true] at h ⊢
  rcases h with (h | h) | h
  · exact .inl (.inl (.inl h))
  · exact .inl (.inl (.inr h))
  · exact .inr h
theorem cfile_valid {k : ByteArray} (h : vname k = true) (t : Nat) : valid (cfile k t) = true := by
  have hs := cfile_size k t
  unfold vname at h
  simp only [Bool.and_eq_true, decide_eq_true_eq, List.all_eq_true] at h
  obtain ⟨⟨h1, h2⟩, h3⟩ := h
  unfold valid
  simp only [Bool.and_eq_true, decide_eq_true_eq, List.all_eq_true]
  refine ⟨⟨by omega, by omega⟩, fun c hc => ?_⟩
  rw [cfile_data] at hc
  rcases List.mem_append.1 hc with hc | hc
  · exact okn_okc (h3 c hc)
  · have h4 : ∀ x ∈ ([46, 99, 104, 101, 99, 107, 48, 49] : List UInt8), okc x = true := by decide
    refine h4 c ?_
    simp only [List.mem_cons, List.not_mem_nil, or_false] at hc ⊢
    rcases hc with hc | hc | hc | hc | hc | hc | hc
    · exact .inl hc
    · exact .inr (.inl hc)
    · exact .inr (.inr (.inl hc))
    · exact .inr (.inr (.inr (.inl hc)))
    · exact .inr (.inr (.inr (.inr (.inl hc))))
    · exact .inr (.inr (.inr (.inr (.inr (.inl hc)))))
    · split at hc
      · exact .inr (.inr (.inr (.inr (.inr (.inr (.inl hc))))))
      · exact .inr (.inr (.inr (.inr (.inr (.inr (.inr hc))))))
end Go.Proofs.Ytalnhdeckdakfaa.Dev
