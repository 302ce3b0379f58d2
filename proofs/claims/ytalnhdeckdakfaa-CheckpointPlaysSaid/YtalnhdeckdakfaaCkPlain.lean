/-
  Plain: a checkpoint's file as bytes.
-/
import Derived.Test.YtalnhdeckdakfaaCoPlain
namespace Go.Proofs.Ytalnhdeckdakfaa.Co

structure CP where
  turn : Nat
  pos : Nat
  st : List Int
def CP.zero : CP := ⟨0, 0, []⟩
def CP.enc (c : CP) : List Int := putU c.turn ++ putU c.pos ++ putU c.st.length ++ c.st
def badU (r : Nat × Nat × Int) : Prop := r.2.2 ≠ 0 ∨ 4611686018427387904 < r.1
instance (r : Nat × Nat × Int) : Decidable (badU r) := inferInstanceAs (Decidable (_ ∨ _))
def CP.dec (b : List Int) : CP :=
  if badU (uget b 0 0) then CP.zero
  else if badU (uget (b.drop (uget b 0 0).2.1) 0 0) then CP.zero
  else if badU (uget (b.drop ((uget b 0 0).2.1 + (uget (b.drop (uget b 0 0).2.1) 0 0).2.1)) 0 0) then CP.zero
  else
    let a1 := (uget b 0 0).2.1
    let a2 := a1 + (uget (b.drop a1) 0 0).2.1
    let a3 := a2 + (uget (b.drop a2) 0 0).2.1
    if (uget (b.drop a2) 0 0).1 = b.length - a3 then ⟨(uget b 0 0).1, (uget (b.drop a1) 0 0).1, b.drop a3⟩ else CP.zero
/-- how many bytes a number read has: no more than there are -/
theorem uget_le : ∀ (xs : List Int) (i acc : Nat), (uget xs i acc).2.2 = 0 → i < (uget xs i acc).2.1 ∧ (uget xs i acc).2.1 ≤ i + xs.length
  | [], i, acc, h => by simp [uget] at h
  | c :: cs, i, acc, h => by
    simp only [uget] at h ⊢
    split at h
    · simp at h
    · rename_i h1
      rw [if_neg h1]
      split at h
      · rename_i h2
        rw [if_pos h2]
        simp
      · rename_i h2
        rw [if_neg h2]
        have := uget_le cs (i + 1) _ h
        simp only [List.length_cons]
        omega
theorem dec_enc (c : CP) (h1 : c.turn ≤ 4611686018427387904) (h2 : c.pos ≤ 4611686018427387904) (h3 : c.st.length ≤ 4611686018427387904) : CP.dec c.enc = c := by
  have e1 : uget c.enc 0 0 = (c.turn, (putU c.turn).length, 0) := by
    unfold CP.enc
    rw [List.append_assoc, List.append_assoc]
    exact uget_putU _ (by omega)
  have d1 : c.enc.drop (putU c.turn).length = putU c.pos ++ (putU c.st.length ++ c.st) := by
    unfold CP.enc
    rw [List.append_assoc, List.append_assoc, List.drop_left]
  have e2 : uget (c.enc.drop (putU c.turn).length) 0 0 = (c.pos, (putU c.pos).length, 0) := by rw [d1]; exact uget_putU _ (by omega)
  have d2 : c.enc.drop ((putU c.turn).length + (putU c.pos).length) = putU c.st.length ++ c.st := by
    rw [← List.drop_drop, d1, List.drop_left]
  have e3 : uget (c.enc.drop ((putU c.turn).length + (putU c.pos).length)) 0 0 = (c.st.length, (putU c.st.length).length, 0) := by rw [d2]; exact uget_putU _ (by omega)
  have d3 : c.enc.drop ((putU c.turn).length + (putU c.pos).length + (putU c.st.length).length) = c.st := by
    rw [← List.drop_drop, d2, List.drop_left]
  have hl : c.enc.length = (putU c.turn).length + (putU c.pos).length + (putU c.st.length).length + c.st.length := by
    unfold CP.enc
    simp only [List.length_append]
  have g : ∀ v n : Nat, v ≤ 4611686018427387904 → ¬ badU (v, n, 0) := fun v n h k => by
    rcases k with k | k
    · exact k rfl
    · simp only at k; omega
  unfold CP.dec
  simp only [e1, if_neg (g _ _ h1), e2, if_neg (g _ _ h2), e3, if_neg (g _ _ h3), d3]
  rw [if_pos (by omega)]
section
variable {xs : List Int} {v0 v1 v2 n0 n1 n2 a1 a2 a3 : Nat} {e0 e1 e2 : Int}
theorem dec_bad0 (Q0 : uget xs 0 0 = (v0, n0, e0)) (B : badU (v0, n0, e0)) : CP.dec xs = CP.zero := by rw [CP.dec, if_pos (by rw [Q0]; exact B)]
theorem dec_bad1 (Q0 : uget xs 0 0 = (v0, n0, 0)) (G0 : ¬ badU (v0, n0, 0)) (HA : 0 + n0 = a1) (Q1 : uget (xs.drop a1) 0 0 = (v1, n1, e1)) (B : badU (v1, n1, e1)) : CP.dec xs = CP.zero := by
  have : n0 = a1 := by omega
  subst this
  rw [CP.dec, if_neg (by rw [Q0]; exact G0), if_pos (by rw [Q0]; simp only [Q1]; exact B)]
theorem dec_bad2 (Q0 : uget xs 0 0 = (v0, n0, 0)) (G0 : ¬ badU (v0, n0, 0)) (HA : 0 + n0 = a1) (Q1 : uget (xs.drop a1) 0 0 = (v1, n1, 0)) (G1 : ¬ badU (v1, n1, 0)) (HA2 : a1 + n1 = a2)
    (Q2 : uget (xs.drop a2) 0 0 = (v2, n2, e2)) (B : badU (v2, n2, e2)) : CP.dec xs = CP.zero := by
  have : n0 = a1 := by omega
  subst this HA2
  rw [CP.dec, if_neg (by rw [Q0]; exact G0), if_neg (by rw [Q0]; simp only [Q1]; exact G1), if_pos (by rw [Q0]; simp only [Q1]; simp only [Q2]; exact B)]
theorem dec_len (Q0 : uget xs 0 0 = (v0, n0, 0)) (G0 : ¬ badU (v0, n0, 0)) (HA : 0 + n0 = a1) (Q1 : uget (xs.drop a1) 0 0 = (v1, n1, 0)) (G1 : ¬ badU (v1, n1, 0)) (HA2 : a1 + n1 = a2)
    (Q2 : uget (xs.drop a2) 0 0 = (v2, n2, 0)) (G2 : ¬ badU (v2, n2, 0)) (HA3 : a2 + n2 = a3) : CP.dec xs = if v2 = xs.length - a3 then ⟨v0, v1, xs.drop a3⟩ else CP.zero := by
  have : n0 = a1 := by omega
  subst this HA2 HA3
  rw [CP.dec, if_neg (by rw [Q0]; exact G0), if_neg (by rw [Q0]; simp only [Q1]; exact G1), if_neg (by rw [Q0]; simp only [Q1]; simp only [Q2]; exact G2)]
  simp only [Q0, Q1, Q2]
end
/-- the names of the two files -/
def cfile (k : ByteArray) (t : Nat) : ByteArray := k ++ (if t % 2 = 0 then ⟨#[46, 99, 104, 101, 99, 107, 48]⟩ else ⟨#[46, 99, 104, 101, 99, 107, 49]⟩)
end Go.Proofs.Ytalnhdeckdakfaa.Co
