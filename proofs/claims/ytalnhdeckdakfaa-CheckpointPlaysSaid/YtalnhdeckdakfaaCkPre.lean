/-
  Plain: a beginning of a checkpoint's file is none.
-/
import Derived.Test.YtalnhdeckdakfaaCkPlain
namespace Go.Proofs.Ytalnhdeckdakfaa.Co

theorem uget_short (rest : List Int) : ∀ (n v i acc t : Nat), v ≤ n → (0 < i → 1 ≤ v) → v * 2 ^ (7 * i) + acc < 18446744073709551616 → t < (putU v).length → uget ((putU v ++ rest).take t) i acc = (0, 0, 11)
  | n, v, i, acc, 0, _, _, _, _ => by simp [uget]
  | n, v, i, acc, t + 1, hn, hi, hb, ht => by
    have h9 : i = 9 → v < 2 := fun e => by
      subst e
      have h1 : v * 9223372036854775808 < 18446744073709551616 := Nat.lt_of_le_of_lt (Nat.le_add_right _ _) hb
      omega
    by_cases hv : v < 128
    · rw [putU_lt hv] at ht
      simp at ht
    · rw [putU_ge (by omega)] at ht ⊢
      simp only [List.cons_append, List.take_succ_cons, uget]
      rw [if_neg (by
        rintro (⟨h1, h2⟩ | ⟨h1, h2⟩)
        · omega
        · have := h9 h1; omega), if_neg (by omega)]
      have e1 : (((v % 128 + 128 : Nat) : Int).toNat % 128) = v % 128 := by omega
      rw [e1]
      have hp : (2 : Nat) ^ (7 * (i + 1)) = 2 ^ (7 * i) * 128 := by rw [show 7 * (i + 1) = 7 * i + 7 by omega, Nat.pow_add]
      have e2 : v / 128 * 2 ^ (7 * (i + 1)) + v % 128 * 2 ^ (7 * i) = v * 2 ^ (7 * i) := by
        rw [hp]
        have h3 : v / 128 * (2 ^ (7 * i) * 128) = (v / 128 * 128) * 2 ^ (7 * i) := by rw [Nat.mul_comm (2 ^ (7 * i)) 128, ← Nat.mul_assoc]
        rw [h3, ← Nat.add_mul]
        congr 1
        omega
      cases n with
      | zero => omega
      | succ n => exact uget_short rest n (v / 128) (i + 1) _ t (by omega) (fun _ => by omega) (by omega) (by simpa using ht)
theorem uget_short0 (rest : List Int) {v t : Nat} (h : v < 18446744073709551616) (ht : t < (putU v).length) : uget ((putU v ++ rest).take t) 0 0 = (0, 0, 11) :=
  uget_short rest v v 0 0 t (Nat.le_refl _) (fun h => by omega) (by omega) ht
theorem take_long (a b : List Int) {t : Nat} (h : a.length ≤ t) : (a ++ b).take t = a ++ b.take (t - a.length) := by
  rw [List.take_append, List.take_of_length_le h]
theorem bad_short : badU (0, 0, 11) := .inl (by simp)
theorem dec_prefix (c : CP) (h1 : c.turn ≤ 4611686018427387904) (h2 : c.pos ≤ 4611686018427387904) (h3 : c.st.length ≤ 4611686018427387904) {t : Nat} (ht : t < c.enc.length) : CP.dec (c.enc.take t) = CP.zero := by
  have he : c.enc = putU c.turn ++ (putU c.pos ++ (putU c.st.length ++ c.st)) := by
    unfold CP.enc
    rw [List.append_assoc, List.append_assoc]
  have g : ∀ v n : Nat, v ≤ 4611686018427387904 → ¬ badU (v, n, 0) := fun v n h k => by
    rcases k with k | k
    · exact k rfl
    · simp only at k; omega
  by_cases k1 : t < (putU c.turn).length
  · have q := uget_short0 (putU c.pos ++ (putU c.st.length ++ c.st)) (v := c.turn) (by omega) k1
    rw [← he] at q
    exact dec_bad0 q bad_short
  have q0 : uget (c.enc.take t) 0 0 = (c.turn, (putU c.turn).length, 0) := by
    rw [he, take_long _ _ (by omega)]
    exact uget_putU _ (by omega)
  have d1 : (c.enc.take t).drop (putU c.turn).length = (putU c.pos ++ (putU c.st.length ++ c.st)).take (t - (putU c.turn).length) := by
    rw [he, take_long _ _ (by omega), List.drop_left]
  by_cases k2 : t - (putU c.turn).length < (putU c.pos).length
  · have q := uget_short0 (putU c.st.length ++ c.st) (v := c.pos) (by omega) k2
    rw [← d1] at q
    exact dec_bad1 q0 (g _ _ h1) (Nat.zero_add _) q bad_short
  have q1 : uget ((c.enc.take t).drop (putU c.turn).length) 0 0 = (c.pos, (putU c.pos).length, 0) := by
    rw [d1, take_long _ _ (by omega)]
    exact uget_putU _ (by omega)
  have d2 : (c.enc.take t).drop ((putU c.turn).length + (putU c.pos).length) = (putU c.st.length ++ c.st).take (t - (putU c.turn).length - (putU c.pos).length) := by
    rw [← List.drop_drop, d1, take_long _ _ (by omega), List.drop_left]
  by_cases k3 : t - (putU c.turn).length - (putU c.pos).length < (putU c.st.length).length
  · have q := uget_short0 c.st (v := c.st.length) (by omega) k3
    rw [← d2] at q
    exact dec_bad2 q0 (g _ _ h1) (Nat.zero_add _) q1 (g _ _ h2) rfl q bad_short
  have q2 : uget ((c.enc.take t).drop ((putU c.turn).length + (putU c.pos).length)) 0 0 = (c.st.length, (putU c.st.length).length, 0) := by
    rw [d2, take_long _ _ (by omega)]
    exact uget_putU _ (by omega)
  have hl : c.enc.length = (putU c.turn).length + ((putU c.pos).length + ((putU c.st.length).length + c.st.length)) := by
    rw [he]; simp only [List.length_append]
  rw [dec_len q0 (g _ _ h1) (Nat.zero_add _) q1 (g _ _ h2) rfl q2 (g _ _ h3) rfl, if_neg]
  rw [List.length_take]
  omega
end Go.Proofs.Ytalnhdeckdakfaa.Co
