/-
  Plain: numbers as bytes (layer 1's codec), without any program.
-/
namespace Go.Proofs.Ytalnhdeckdakfaa.Co

def putF : Nat → Nat → List Int
  | 0, v => [(v : Int)]
  | f + 1, v => if v < 128 then [(v : Int)] else ((v % 128 + 128 : Nat) : Int) :: putF f (v / 128)
def putU (v : Nat) : List Int := putF v v
theorem putF_eq : ∀ (f g v : Nat), v ≤ f → v ≤ g → putF f v = putF g v
  | 0, 0, v, _, _ => rfl
  | 0, g + 1, v, h, _ => by
    have : v = 0 := by omega
    subst this
    simp [putF]
  | f + 1, 0, v, _, h => by
    have : v = 0 := by omega
    subst this
    simp [putF]
  | f + 1, g + 1, v, hf, hg => by
    simp only [putF]
    split
    · rfl
    · rw [putF_eq f g (v / 128) (by omega) (by omega)]
theorem putU_lt {v : Nat} (h : v < 128) : putU v = [(v : Int)] := by
  unfold putU
  cases v with
  | zero => rfl
  | succ v => simp only [putF, if_pos h]
theorem putU_ge {v : Nat} (h : 128 ≤ v) : putU v = ((v % 128 + 128 : Nat) : Int) :: putU (v / 128) := by
  unfold putU
  cases v with
  | zero => omega
  | succ v => rw [putF, if_neg (by omega), putF_eq v ((v + 1) / 128) ((v + 1) / 128) (by omega) (Nat.le_refl _)]
theorem putU_len : ∀ (n v : Nat), v < 128 ^ (n + 1) → (putU v).length ≤ n + 1
  | 0, v, h => by rw [putU_lt (by simpa using h)]; simp
  | n + 1, v, h => by
    by_cases hv : v < 128
    · rw [putU_lt hv]; simp
    · rw [putU_ge (by omega), List.length_cons]
      have := putU_len n (v / 128) (by rw [Nat.div_lt_iff_lt_mul (by omega)]; rwa [Nat.pow_succ] at h)
      omega
theorem putU_len10 {v : Nat} (h : v < 18446744073709551616) : (putU v).length ≤ 10 := putU_len 9 v (Nat.lt_of_lt_of_le h (by decide))
theorem putU_pos (v : Nat) : 1 ≤ (putU v).length := by
  by_cases hv : v < 128
  · rw [putU_lt hv]; simp
  · rw [putU_ge (by omega)]; simp
theorem putU_byte : ∀ (n v : Nat), v ≤ n → ∀ x ∈ putU v, 0 ≤ x ∧ x < 256
  | n, v, h, x, hx => by
    by_cases hv : v < 128
    · rw [putU_lt hv] at hx
      simp only [List.mem_singleton] at hx
      omega
    · rw [putU_ge (by omega)] at hx
      rcases List.mem_cons.1 hx with hx | hx
      · omega
      · cases n with
        | zero => omega
        | succ n => exact putU_byte n (v / 128) (by omega) x hx
/-- a number read: it, how many bytes it has, the error -/
def uget : List Int → Nat → Nat → Nat × Nat × Int
  | [], _, _ => (0, 0, 11)
  | c :: cs, i, acc => if (0 < i ∧ c = 0) ∨ (i = 9 ∧ c ≠ 1) then (0, 0, 12) else if c < 128 then (acc + c.toNat * 2 ^ (7 * i), i + 1, 0) else uget cs (i + 1) (acc + (c.toNat % 128) * 2 ^ (7 * i))
theorem uget_put (rest : List Int) : ∀ (n v i acc : Nat), v ≤ n → (0 < i → 1 ≤ v) → v * 2 ^ (7 * i) + acc < 18446744073709551616 → uget (putU v ++ rest) i acc = (acc + v * 2 ^ (7 * i), i + (putU v).length, 0)
  | n, v, i, acc, hn, hi, hb => by
    have h9 : i = 9 → v < 2 := fun e => by
      subst e
      have h1 : v * 9223372036854775808 < 18446744073709551616 := Nat.lt_of_le_of_lt (Nat.le_add_right _ _) hb
      omega
    by_cases hv : v < 128
    · rw [putU_lt hv]
      simp only [List.cons_append, List.nil_append, uget]
      rw [if_neg (by
        rintro (⟨h1, h2⟩ | ⟨h1, h2⟩)
        · have := hi h1; omega
        · have := h9 h1; have := hi (by omega); omega), if_pos (by omega)]
      simp
    · rw [putU_ge (by omega)]
      simp only [List.cons_append, uget]
      rw [if_neg (by
        rintro (⟨h1, h2⟩ | ⟨h1, h2⟩)
        · omega
        · have := h9 h1; omega), if_neg (by omega)]
      have e1 : (((v % 128 + 128 : Nat) : Int).toNat % 128) = v % 128 := by omega
      rw [e1]
      have hp : (2 : Nat) ^ (7 * (i + 1)) = 2 ^ (7 * i) * 128 := by rw [show 7 * (i + 1) = 7 * i + 7 by omega, Nat.pow_add]
      have e2 : v / 128 * 2 ^ (7 * (i + 1)) + v % 128 * 2 ^ (7 * i) = v * 2 ^ (7 * i) := by
        rw [hp]
        have h3 : v / 128 * (2 ^ (7 * i) * 128) = (v / 128 * 128) * 2 ^ (7 * i) := by rw [Nat.mul_comm (2 ^ (7 * i)) 128, ← Nat.mul_assoc]
        rw [h3, ← Nat.add_mul]
        congr 1
        omega
      cases n with
      | zero => omega
      | succ n =>
        rw [uget_put rest n (v / 128) (i + 1) _ (by omega) (fun _ => by omega) (by omega), List.length_cons]
        refine Prod.ext ?_ (Prod.ext ?_ rfl)
        · show acc + v % 128 * 2 ^ (7 * i) + v / 128 * 2 ^ (7 * (i + 1)) = acc + v * 2 ^ (7 * i)
          omega
        · show i + 1 + (putU (v / 128)).length = i + ((putU (v / 128)).length + 1)
          omega
theorem uget_putU (rest : List Int) {v : Nat} (h : v < 18446744073709551616) : uget (putU v ++ rest) 0 0 = (v, (putU v).length, 0) := by
  rw [uget_put rest v v 0 0 (Nat.le_refl _) (fun h => by omega) (by omega)]
  simp
end Go.Proofs.Ytalnhdeckdakfaa.Co
