/-
  Sets of numbers as lists of ranges: plain facts, no program in sight.
-/
namespace Go.Proofs.Ytlbfkcgejpboeaa.Rs
set_option linter.unusedVariables false
set_option linter.unusedSimpArgs false

abbrev R := Int × Int
def maxN : Int := 1073741824
def Sound (r : R) : Prop := 1 ≤ r.1 ∧ r.1 ≤ r.2 ∧ r.2 ≤ 1073741824
def sound (r : R) : Bool := decide (1 ≤ r.1) && decide (r.1 ≤ r.2) && decide (r.2 ≤ 1073741824)
theorem sound_iff {r : R} : sound r = true ↔ Sound r := by
  unfold sound Sound; simp only [Bool.and_eq_true, decide_eq_true_eq, and_assoc]
instance (r : R) : Decidable (Sound r) := decidable_of_iff _ sound_iff
def In (r : R) (n : Int) : Prop := r.1 ≤ n ∧ n ≤ r.2
def mem (l : List R) (n : Int) : Prop := ∃ r ∈ l, r.1 ≤ n ∧ n ≤ r.2
def memB (l : List R) (n : Int) : Bool := l.any fun r => decide (r.1 ≤ n) && decide (n ≤ r.2)
theorem memB_iff {l : List R} {n : Int} : memB l n = true ↔ mem l n := by
  unfold memB mem; simp [List.any_eq_true]
def IsSet (l : List R) : Prop := (∀ r ∈ l, Sound r) ∧ l.Pairwise fun a b => a.2 + 2 ≤ b.1
theorem isSet_nil : IsSet [] := ⟨fun _ h => (List.not_mem_nil h).elim, List.Pairwise.nil⟩

theorem mem_nil (n : Int) : ¬ mem [] n := fun ⟨_, h, _⟩ => by cases h
theorem mem_cons {r : R} {l : List R} {n : Int} : mem (r :: l) n ↔ (r.1 ≤ n ∧ n ≤ r.2) ∨ mem l n := by
  unfold mem; simp
theorem mem_append {l m : List R} {n : Int} : mem (l ++ m) n ↔ mem l n ∨ mem m n := by
  unfold mem; simp only [List.mem_append]
  constructor
  · rintro ⟨r, h | h, k⟩
    · exact .inl ⟨r, h, k⟩
    · exact .inr ⟨r, h, k⟩
  · rintro (⟨r, h, k⟩ | ⟨r, h, k⟩)
    · exact ⟨r, .inl h, k⟩
    · exact ⟨r, .inr h, k⟩
theorem mem_perm {l m : List R} (h : l.Perm m) {n : Int} : mem l n ↔ mem m n := by
  unfold mem
  exact ⟨fun ⟨r, a, b⟩ => ⟨r, h.mem_iff.1 a, b⟩, fun ⟨r, a, b⟩ => ⟨r, h.mem_iff.2 a, b⟩⟩

theorem isSet_cons {r : R} {l : List R} : IsSet (r :: l) ↔ Sound r ∧ (∀ q ∈ l, r.2 + 2 ≤ q.1) ∧ IsSet l := by
  unfold IsSet
  simp only [List.mem_cons, forall_eq_or_imp, List.pairwise_cons]
  constructor
  · rintro ⟨⟨a, b⟩, c, d⟩; exact ⟨a, c, b, d⟩
  · rintro ⟨a, c, b, d⟩; exact ⟨⟨a, b⟩, c, d⟩

/-- A set is known by its numbers. -/
theorem IsSet.ext : ∀ {l m : List R}, IsSet l → IsSet m → (∀ n, mem l n ↔ mem m n) → l = m
  | [], [], _, _, _ => rfl
  | [], s :: m, _, hm, h => by
    have h1 := (isSet_cons.1 hm).1
    exact absurd ((h s.1).2 (mem_cons.2 (.inl ⟨by omega, h1.2.1⟩))) (mem_nil _)
  | r :: l, [], hl, _, h => by
    have h1 := (isSet_cons.1 hl).1
    exact absurd ((h r.1).1 (mem_cons.2 (.inl ⟨by omega, h1.2.1⟩))) (mem_nil _)
  | r :: l, s :: m, hl, hm, h => by
    obtain ⟨r1, r2, r3⟩ := isSet_cons.1 hl
    obtain ⟨s1, s2, s3⟩ := isSet_cons.1 hm
    have lo : ∀ {q : R} {k : List R} {n : Int}, Sound q → (∀ x ∈ k, q.2 + 2 ≤ x.1) → mem (q :: k) n → q.1 ≤ n ∧ (q.2 < n → q.2 + 2 ≤ n ∧ mem k n) := by
      intro q k n hq hk hmm
      rcases mem_cons.1 hmm with hh | ⟨x, hx, hx1, hx2⟩
      · exact ⟨hh.1, fun h => by omega⟩
      · have := hk x hx
        have := hq.2.1
        exact ⟨by omega, fun _ => ⟨by omega, x, hx, hx1, hx2⟩⟩
    have e1 : r.1 = s.1 := by
      have a := (lo s1 s2 ((h r.1).1 (mem_cons.2 (.inl ⟨by omega, r1.2.1⟩)))).1
      have b := (lo r1 r2 ((h s.1).2 (mem_cons.2 (.inl ⟨by omega, s1.2.1⟩)))).1
      omega
    have e2 : r.2 = s.2 := by
      rcases Int.lt_trichotomy r.2 s.2 with g | g | g
      · have := (lo r1 r2 ((h (r.2 + 1)).2 (mem_cons.2 (.inl ⟨by have := r1.2.1; omega, by omega⟩)))).2 (by omega)
        omega
      · exact g
      · have := (lo s1 s2 ((h (s.2 + 1)).1 (mem_cons.2 (.inl ⟨by have := s1.2.1; omega, by omega⟩)))).2 (by omega)
        omega
    have e : r = s := Prod.ext e1 e2
    subst e
    congr 1
    refine IsSet.ext r3 s3 fun n => ?_
    have big : ∀ {k : List R}, (∀ x ∈ k, r.2 + 2 ≤ x.1) → mem k n → r.2 < n := by
      rintro k hk ⟨x, hx, hx1, _⟩
      have := hk x hx
      omega
    constructor
    · intro hn
      exact ((lo r1 s2 ((h n).1 (mem_cons.2 (.inr hn)))).2 (big r2 hn)).2
    · intro hn
      exact ((lo r1 r2 ((h n).2 (mem_cons.2 (.inr hn)))).2 (big s2 hn)).2

/-! Check -/
def okAt (l : List R) (i : Nat) : Prop := Sound (l.getD i (0, 0)) ∧ (0 < i → (l.getD (i - 1) (0, 0)).2 + 2 ≤ (l.getD i (0, 0)).1)
instance (l : List R) (i : Nat) : Decidable (okAt l i) := by unfold okAt; infer_instance
theorem take_snoc {α : Type} (l : List α) (k : Nat) (d : α) (h : k < l.length) : l.take (k + 1) = l.take k ++ [l.getD k d] := by
  rw [List.take_succ_eq_append_getElem h, List.getD_eq_getElem?_getD, List.getElem?_eq_getElem h]; rfl
theorem isSet_snoc {l : List R} {r : R} : IsSet (l ++ [r]) ↔ IsSet l ∧ Sound r ∧ ∀ q ∈ l, q.2 + 2 ≤ r.1 := by
  unfold IsSet
  rw [List.pairwise_append]
  constructor
  · rintro ⟨a, b, _, c⟩
    exact ⟨⟨fun x hx => a x (List.mem_append_left _ hx), b⟩, a r (by simp), fun q hq => c q hq r (by simp)⟩
  · rintro ⟨⟨a, b⟩, c, d⟩
    refine ⟨fun x hx => ?_, b, List.pairwise_singleton _ _, fun x hx y hy => ?_⟩
    · rcases List.mem_append.1 hx with h | h
      · exact a x h
      · rw [List.mem_singleton.1 h]; exact c
    · rw [List.mem_singleton.1 hy]; exact d x hx
theorem isSet_take {l : List R} : ∀ {k : Nat}, k ≤ l.length → (IsSet (l.take k) ↔ ∀ j, j < k → okAt l j)
  | 0, _ => by simp [isSet_nil]
  | k + 1, hk => by
    have ih := isSet_take (l := l) (k := k) (by omega)
    rw [take_snoc l k (0, 0) (by omega), isSet_snoc, ih]
    constructor
    · rintro ⟨a, b, c⟩ j hj
      rcases Nat.lt_or_ge j k with h | h
      · exact a j h
      · obtain rfl : j = k := by omega
        refine ⟨b, fun h0 => c _ ?_⟩
        rw [List.mem_iff_getElem]
        refine ⟨j - 1, by rw [List.length_take]; omega, ?_⟩
        rw [List.getElem_take, List.getD_eq_getElem?_getD, List.getElem?_eq_getElem (by omega)]; rfl
    · intro h
      have hs := ih.2 fun j hj => h j (by omega)
      refine ⟨fun j hj => h j (by omega), (h k (by omega)).1, fun q hq => ?_⟩
      rcases Nat.eq_zero_or_pos k with h0 | h0
      · subst h0; simp at hq
      · have h1 := (h k (by omega)).2 h0
        obtain ⟨m, rfl⟩ : ∃ m, k = m + 1 := ⟨k - 1, by omega⟩
        rw [take_snoc l m (0, 0) (by omega)] at hq hs
        obtain ⟨s1, s2, s3⟩ := isSet_snoc.1 hs
        simp only [Nat.add_sub_cancel] at h1
        rcases List.mem_append.1 hq with hq | hq
        · have := s3 q hq; have := s2.2.1; omega
        · rw [List.mem_singleton.1 hq]; exact h1
def chk (l : List R) : Prop := ∀ j, j < l.length → okAt l j
theorem chk_iff {l : List R} : chk l ↔ IsSet l := by
  have := isSet_take (l := l) (k := l.length) (Nat.le_refl _)
  rw [List.take_length] at this
  exact this.symm
instance (l : List R) : Decidable (IsSet l) := decidable_of_iff ((∀ r ∈ l, Sound r) ∧ l.Pairwise fun a b => a.2 + 2 ≤ b.1) Iff.rfl
/-- the answer of Check -/
def chkE (l : List R) : Int := if IsSet l then 0 else 120

/-! join -/
def joinL (l : List R) (r : R) : List R :=
  match l.getLast? with
  | none => [r]
  | some q => if r.1 ≤ q.2 + 1 then l.dropLast ++ [(q.1, max q.2 r.2)] else l ++ [r]
theorem joinL_nil (r : R) : joinL [] r = [r] := rfl
theorem joinL_snoc (l : List R) (q r : R) : joinL (l ++ [q]) r = if r.1 ≤ q.2 + 1 then l ++ [(q.1, max q.2 r.2)] else l ++ [q] ++ [r] := by
  simp [joinL]
theorem snoc_cases (l : List R) : l = [] ∨ ∃ m q, l = m ++ [q] := by
  rcases List.eq_nil_or_concat l with h | ⟨m, q, h⟩
  · exact .inl h
  · exact .inr ⟨m, q, by rw [h]; simp⟩
theorem join_spec {l : List R} {r : R} (hl : IsSet l) (hr : Sound r) (h : ∀ q ∈ l, q.1 ≤ r.1) :
    IsSet (joinL l r) ∧ (∀ n, mem (joinL l r) n ↔ mem l n ∨ (r.1 ≤ n ∧ n ≤ r.2)) ∧ (∀ q ∈ joinL l r, q.1 ≤ r.1) := by
  rcases snoc_cases l with rfl | ⟨m, q, rfl⟩
  · rw [joinL_nil]
    refine ⟨isSet_cons.2 ⟨hr, fun _ h => (List.not_mem_nil h).elim, isSet_nil⟩, fun n => ?_, fun q hq => ?_⟩
    · rw [mem_cons]; exact ⟨fun h => h.elim .inr fun h => absurd h (mem_nil _), fun h => h.elim (fun h => absurd h (mem_nil _)) .inl⟩
    · rw [List.mem_singleton.1 hq]; omega
  · obtain ⟨h1, h2, h3⟩ := isSet_snoc.1 hl
    have hq := h q (by simp)
    rw [joinL_snoc]
    split
    · rename_i hc
      refine ⟨isSet_snoc.2 ⟨h1, ⟨h2.1, by have := h2.2.1; show q.1 ≤ max q.2 r.2; omega, by have := h2.2.2; have := hr.2.2; show max q.2 r.2 ≤ _; omega⟩, h3⟩, fun n => ?_, fun x hx => ?_⟩
      · rw [mem_append, mem_append, mem_cons, mem_cons]
        show mem m n ∨ (q.1 ≤ n ∧ n ≤ max q.2 r.2) ∨ _ ↔ _
        have := h2.2.1; have := hr.2.1
        constructor
        · rintro (a | b | c)
          · exact .inl (.inl a)
          · rcases Int.lt_or_le q.2 n with g | g
            · exact .inr ⟨by omega, by omega⟩
            · exact .inl (.inr (.inl ⟨b.1, g⟩))
          · exact absurd c (mem_nil _)
        · rintro ((a | b | c) | d)
          · exact .inl a
          · exact .inr (.inl ⟨b.1, by omega⟩)
          · exact absurd c (mem_nil _)
          · exact .inr (.inl ⟨by omega, by omega⟩)
      · rcases List.mem_append.1 hx with hx | hx
        · exact h x (List.mem_append_left _ hx)
        · rw [List.mem_singleton.1 hx]; exact hq
    · rename_i hc
      refine ⟨isSet_snoc.2 ⟨hl, hr, fun x hx => ?_⟩, fun n => ?_, fun x hx => ?_⟩
      · rcases List.mem_append.1 hx with hx | hx
        · have := h3 x hx; have := h2.2.1; omega
        · rw [List.mem_singleton.1 hx]; omega
      · rw [mem_append, mem_cons]
        exact ⟨fun g => g.elim .inl fun g => g.elim .inr fun g => absurd g (mem_nil _), fun g => g.elim .inl fun g => .inr (.inl g)⟩
      · rcases List.mem_append.1 hx with hx | hx
        · exact h x hx
        · rw [List.mem_singleton.1 hx]; omega

/-! Normalize: joining what is sorted by First -/
theorem fold_spec : ∀ {rs acc : List R}, IsSet acc → (∀ r ∈ rs, Sound r) → rs.Pairwise (fun a b => a.1 ≤ b.1) → (∀ q ∈ acc, ∀ r ∈ rs, q.1 ≤ r.1) →
    IsSet (rs.foldl joinL acc) ∧ ∀ n, mem (rs.foldl joinL acc) n ↔ mem acc n ∨ mem rs n
  | [], acc, ha, _, _, _ => ⟨ha, fun n => ⟨.inl, fun h => h.elim id fun h => absurd h (mem_nil _)⟩⟩
  | r :: rs, acc, ha, hs, hp, hq => by
    obtain ⟨j1, j2, j3⟩ := join_spec (r := r) ha (hs r (by simp)) fun q h => hq q h r (by simp)
    obtain ⟨p1, p2⟩ := List.pairwise_cons.1 hp
    obtain ⟨i1, i2⟩ := fold_spec (rs := rs) (acc := joinL acc r) j1 (fun x hx => hs x (by simp [hx])) p2 fun q h x hx => by
      have := j3 q h; have := p1 x hx; omega
    refine ⟨i1, fun n => ?_⟩
    show mem (rs.foldl joinL (joinL acc r)) n ↔ _
    rw [i2, j2, mem_cons]
    exact or_assoc
theorem norm_spec {l d : List R} (hl : ∀ r ∈ l, Sound r) (hp : d.Perm l) (hs : d.Pairwise fun a b => a.1 ≤ b.1) : IsSet (d.foldl joinL []) ∧ ∀ n, mem (d.foldl joinL []) n ↔ mem l n := by
  obtain ⟨a, b⟩ := fold_spec (rs := d) isSet_nil (fun r hr => hl r (hp.mem_iff.1 hr)) hs (fun _ h => by cases h)
  refine ⟨a, fun n => ?_⟩
  rw [b, mem_perm hp]
  exact ⟨fun h => h.elim (fun h => absurd h (mem_nil _)) id, .inr⟩

/-! The pieces between ends -/
def ends (l : List R) : List Int := l.flatMap fun r => [r.1, r.2 + 1]
theorem mem_ends {l : List R} {r : R} (h : r ∈ l) : r.1 ∈ ends l ∧ r.2 + 1 ∈ ends l := by
  unfold ends; simp only [List.mem_flatMap]
  exact ⟨⟨r, h, by simp⟩, ⟨r, h, by simp⟩⟩
theorem ends_mem {l : List R} {e : Int} (h : e ∈ ends l) : ∃ r ∈ l, e = r.1 ∨ e = r.2 + 1 := by
  unfold ends at h; simp only [List.mem_flatMap] at h
  obtain ⟨r, h1, h2⟩ := h
  exact ⟨r, h1, by simpa using h2⟩
theorem const_between {l : List R} {E : List Int} {k : Nat} (hs : E.Pairwise (· ≤ ·)) (hE : ∀ r ∈ l, r.1 ∈ E ∧ r.2 + 1 ∈ E) (hk : k + 1 < E.length) {n : Int} (h1 : E.getD k 0 ≤ n) (h2 : n < E.getD (k + 1) 0) : mem l n ↔ mem l (E.getD k 0) := by
  have gap : ∀ e ∈ E, e ≤ E.getD k 0 ∨ E.getD (k + 1) 0 ≤ e := by
    intro e he
    obtain ⟨i, hi, rfl⟩ := List.mem_iff_getElem.1 he
    have g : ∀ j, (hj : j < E.length) → E.getD j 0 = E[j] := fun j hj => by rw [List.getD_eq_getElem?_getD, List.getElem?_eq_getElem hj]; rfl
    rw [g k (by omega), g (k + 1) hk]
    rw [List.pairwise_iff_getElem] at hs
    rcases Nat.lt_trichotomy i k with c | c | c
    · exact .inl (hs i k hi (by omega) c)
    · subst c; exact .inl (Int.le_refl _)
    · rcases Nat.lt_or_ge (k + 1) i with d | d
      · exact .inr (hs (k + 1) i hk hi d)
      · obtain rfl : i = k + 1 := by omega
        exact .inr (Int.le_refl _)
  constructor
  · rintro ⟨r, hr, a, b⟩
    obtain ⟨e1, e2⟩ := hE r hr
    exact ⟨r, hr, by have := gap _ e1; omega, by omega⟩
  · rintro ⟨r, hr, a, b⟩
    obtain ⟨e1, e2⟩ := hE r hr
    exact ⟨r, hr, by omega, by have := gap _ e2; omega⟩
/-- one piece -/
def piece (c : Int → Bool) (out : List R) (e f : Int) : List R := if e < f ∧ c e = true then joinL out (e, f - 1) else out
def pieces (c : Int → Bool) (E : List Int) : Nat → List R
  | 0 => []
  | k + 1 => piece c (pieces c E k) (E.getD k 0) (E.getD (k + 1) 0)
theorem pieces_spec {c : Int → Bool} {E : List Int} (hs : E.Pairwise (· ≤ ·)) (hE : ∀ e ∈ E, 1 ≤ e ∧ e ≤ 1073741825)
    (hc : ∀ k n, k + 1 < E.length → E.getD k 0 ≤ n → n < E.getD (k + 1) 0 → c n = c (E.getD k 0)) : ∀ k, k < E.length →
    IsSet (pieces c E k) ∧ (∀ n, mem (pieces c E k) n ↔ (E.getD 0 0 ≤ n ∧ n < E.getD k 0) ∧ c n = true) ∧ (∀ q ∈ pieces c E k, q.2 < E.getD k 0)
  | 0, _ => ⟨isSet_nil, fun n => ⟨fun h => absurd h (mem_nil _), fun h => by omega⟩, fun _ h => by cases h⟩
  | k + 1, hk => by
    obtain ⟨i1, i2, i3⟩ := pieces_spec hs hE hc k (by omega)
    have g : ∀ j, (hj : j < E.length) → E.getD j 0 = E[j] := fun j hj => by rw [List.getD_eq_getElem?_getD, List.getElem?_eq_getElem hj]; rfl
    have hs' := List.pairwise_iff_getElem.1 hs
    have h01 : E.getD 0 0 ≤ E.getD k 0 := by
      rcases Nat.eq_zero_or_pos k with h | h
      · subst h; omega
      · rw [g 0 (by omega), g k (by omega)]; exact hs' 0 k (by omega) (by omega) h
    have h12 : E.getD k 0 ≤ E.getD (k + 1) 0 := by rw [g k (by omega), g (k + 1) hk]; exact hs' k (k + 1) (by omega) hk (by omega)
    have hb1 := hE _ (show E.getD k 0 ∈ E by rw [g k (by omega)]; exact List.getElem_mem _)
    have hb2 := hE _ (show E.getD (k + 1) 0 ∈ E by rw [g (k + 1) hk]; exact List.getElem_mem _)
    have hck := fun n => hc k n hk
    rw [show pieces c E (k + 1) = piece c (pieces c E k) (E.getD k 0) (E.getD (k + 1) 0) from rfl]
    unfold piece
    generalize pieces c E k = out at *
    generalize E.getD k 0 = e at *
    generalize E.getD (k + 1) 0 = f at *
    split
    · rename_i h
      obtain ⟨j1, j2, j3⟩ := join_spec (r := (e, f - 1)) i1 ⟨hb1.1, by show e ≤ f - 1; omega, by show f - 1 ≤ _; omega⟩ fun q hq => by have := i3 q hq; have := (i1.1 q hq).2.1; show q.1 ≤ e; omega
      refine ⟨j1, fun n => ?_, fun q hq => ?_⟩
      · rw [j2, i2]
        show _ ∨ (e ≤ n ∧ n ≤ f - 1) ↔ _
        constructor
        · rintro (⟨a, b⟩ | a)
          · exact ⟨by omega, b⟩
          · exact ⟨by omega, by rw [hck n a.1 (by omega)]; exact h.2⟩
        · rintro ⟨a, b⟩
          rcases Int.lt_or_le n e with g | g
          · exact .inl ⟨⟨a.1, g⟩, b⟩
          · exact .inr ⟨g, by omega⟩
      · rcases Int.lt_or_le q.2 f with g | g
        · exact g
        · exfalso
          have hm : mem (joinL out (e, f - 1)) q.2 := ⟨q, hq, (j1.1 q hq).2.1, Int.le_refl _⟩
          rw [j2, i2] at hm
          rcases hm with ⟨a, _⟩ | a
          · omega
          · have := a.2; simp only at this; omega
    · rename_i h
      refine ⟨i1, fun n => ?_, fun q hq => by have := i3 q hq; omega⟩
      rw [i2]
      constructor
      · rintro ⟨a, b⟩; exact ⟨by omega, b⟩
      · rintro ⟨a, b⟩
        rcases Int.lt_or_le n e with g | g
        · exact ⟨⟨a.1, g⟩, b⟩
        · exfalso
          have hcn := hck n g a.2
          exact h ⟨by omega, by rw [← hcn]; exact b⟩

/-- what is made of two lists: all pieces between the ends of their ranges -/
theorem made_spec {a b : List R} {E : List Int} {op : Bool → Bool → Bool} (h0 : op false false = false) (ha : ∀ r ∈ a, Sound r) (hb : ∀ r ∈ b, Sound r) (hs : E.Pairwise (· ≤ ·))
    (hE : ∀ e, e ∈ E ↔ e ∈ ends (a ++ b)) : IsSet (pieces (fun n => op (memB a n) (memB b n)) E (E.length - 1)) ∧ ∀ n, mem (pieces (fun n => op (memB a n) (memB b n)) E (E.length - 1)) n ↔ op (memB a n) (memB b n) = true := by
  have hA : ∀ r ∈ a, r.1 ∈ E ∧ r.2 + 1 ∈ E := fun r hr => by
    have := mem_ends (l := a ++ b) (List.mem_append_left _ hr); exact ⟨(hE _).2 this.1, (hE _).2 this.2⟩
  have hB : ∀ r ∈ b, r.1 ∈ E ∧ r.2 + 1 ∈ E := fun r hr => by
    have := mem_ends (l := a ++ b) (List.mem_append_right _ hr); exact ⟨(hE _).2 this.1, (hE _).2 this.2⟩
  have hbd : ∀ e ∈ E, 1 ≤ e ∧ e ≤ 1073741825 := by
    intro e he
    obtain ⟨r, hr, h⟩ := ends_mem ((hE e).1 he)
    have hr' : Sound r := (List.mem_append.1 hr).elim (ha r) (hb r)
    have := hr'.1; have := hr'.2.1; have := hr'.2.2
    omega
  have none_ : ∀ {l : List R} {n : Int}, (∀ r ∈ l, r.1 ∈ E ∧ r.2 + 1 ∈ E) → (∀ e ∈ E, n < e) ∨ (∀ e ∈ E, e ≤ n) → memB l n = false := by
    intro l n hl h
    cases hm : memB l n with
    | false => rfl
    | true =>
      obtain ⟨r, hr, r1, r2⟩ := memB_iff.1 hm
      have := hl r hr
      rcases h with h | h
      · have := h _ this.1; omega
      · have := h _ this.2; omega
  rcases Nat.eq_zero_or_pos E.length with hn | hn
  · have hE0 : E = [] := List.length_eq_zero_iff.1 hn
    subst hE0
    refine ⟨isSet_nil, fun n => ⟨fun h => absurd h (mem_nil _), fun h => ?_⟩⟩
    rw [none_ hA (.inl fun _ h => by cases h), none_ hB (.inl fun _ h => by cases h), h0] at h
    cases h
  · obtain ⟨p1, p2, _⟩ := pieces_spec (c := fun n => op (memB a n) (memB b n)) hs hbd (fun k n hk h1 h2 => by
      have e : ∀ {l : List R}, (∀ r ∈ l, r.1 ∈ E ∧ r.2 + 1 ∈ E) → memB l n = memB l (E.getD k 0) := fun hl => by
        rw [Bool.eq_iff_iff, memB_iff, memB_iff]; exact const_between hs hl hk h1 h2
      show op _ _ = op _ _
      rw [e hA, e hB]) (E.length - 1) (by omega)
    refine ⟨p1, fun n => ?_⟩
    rw [p2]
    refine ⟨fun h => h.2, fun h => ⟨?_, h⟩⟩
    have g : ∀ j, (hj : j < E.length) → E.getD j 0 = E[j] := fun j hj => by rw [List.getD_eq_getElem?_getD, List.getElem?_eq_getElem hj]; rfl
    have hs' := List.pairwise_iff_getElem.1 hs
    refine ⟨Classical.byContradiction fun hlt => ?_, Classical.byContradiction fun hge => ?_⟩
    · have hall : ∀ e ∈ E, n < e := by
        intro e he
        obtain ⟨i, hi, rfl⟩ := List.mem_iff_getElem.1 he
        rw [g 0 hn] at hlt
        rcases Nat.eq_zero_or_pos i with h | h
        · subst h; omega
        · have := hs' 0 i hn hi h; omega
      rw [none_ hA (.inl hall), none_ hB (.inl hall), h0] at h
      cases h
    · have hall : ∀ e ∈ E, e ≤ n := by
        intro e he
        obtain ⟨i, hi, rfl⟩ := List.mem_iff_getElem.1 he
        rw [g _ (by omega)] at hge
        rcases Nat.lt_or_ge i (E.length - 1) with h | h
        · have := hs' i (E.length - 1) hi (by omega) h; omega
        · obtain rfl : i = E.length - 1 := by omega
          omega
      rw [none_ hA (.inr hall), none_ hB (.inr hall), h0] at h
      cases h

/-! Numbers of a set -/
def countR : List R → Int
  | [] => 0
  | r :: l => (r.2 - r.1 + 1) + countR l
def nums (r : R) : List Int := (List.range (r.2 - r.1 + 1).toNat).map fun (i : Nat) => r.1 + (i : Int)
def expand (l : List R) : List Int := l.flatMap nums
theorem mem_nums {r : R} {n : Int} : n ∈ nums r ↔ r.1 ≤ n ∧ n ≤ r.2 := by
  unfold nums
  simp only [List.mem_map, List.mem_range]
  constructor
  · rintro ⟨i, h, rfl⟩; omega
  · rintro ⟨h1, h2⟩; exact ⟨(n - r.1).toNat, by omega, by omega⟩
theorem mem_expand {l : List R} {n : Int} : n ∈ expand l ↔ mem l n := by
  unfold expand mem
  simp only [List.mem_flatMap, mem_nums]
theorem nums_sorted (r : R) : (nums r).Pairwise (· < ·) := by
  unfold nums
  rw [List.pairwise_map]
  exact List.pairwise_lt_range.imp fun h => by omega
theorem expand_sorted : ∀ {l : List R}, IsSet l → (expand l).Pairwise (· < ·)
  | [], _ => .nil
  | r :: l, h => by
    obtain ⟨h1, h2, h3⟩ := isSet_cons.1 h
    show (nums r ++ expand l).Pairwise _
    refine List.pairwise_append.2 ⟨nums_sorted r, expand_sorted h3, fun x hx y hy => ?_⟩
    obtain ⟨q, hq, q1, q2⟩ := mem_expand.1 hy
    have := h2 q hq; have := mem_nums.1 hx
    omega
theorem expand_len : ∀ {l : List R}, (∀ r ∈ l, Sound r) → ((expand l).length : Int) = countR l
  | [], _ => rfl
  | r :: l, h => by
    have h1 := (h r (by simp)).2.1
    have ih := expand_len (l := l) fun x hx => h x (by simp [hx])
    show (((nums r ++ expand l).length : Nat) : Int) = (r.2 - r.1 + 1) + countR l
    rw [List.length_append, ← ih]
    unfold nums
    simp only [List.length_map, List.length_range]
    omega
/-- two sorted lists with the same members are one -/
theorem sorted_ext : ∀ {l m : List Int}, l.Pairwise (· < ·) → m.Pairwise (· < ·) → (∀ n, n ∈ l ↔ n ∈ m) → l = m
  | [], [], _, _, _ => rfl
  | [], y :: m, _, _, h => by have := (h y).2 (by simp); cases this
  | x :: l, [], _, _, h => by have := (h x).1 (by simp); cases this
  | x :: l, y :: m, hl, hm, h => by
    obtain ⟨l1, l2⟩ := List.pairwise_cons.1 hl
    obtain ⟨m1, m2⟩ := List.pairwise_cons.1 hm
    have e : x = y := by
      rcases List.mem_cons.1 ((h x).1 (by simp)) with e | e
      · exact e
      · rcases List.mem_cons.1 ((h y).2 (by simp)) with f | f
        · exact f.symm
        · have := m1 x e; have := l1 y f; omega
    subst e
    congr 1
    refine sorted_ext l2 m2 fun n => ⟨fun hn => ?_, fun hn => ?_⟩
    · rcases List.mem_cons.1 ((h n).1 (List.mem_cons_of_mem _ hn)) with e | e
      · have := l1 n hn; omega
      · exact e
    · rcases List.mem_cons.1 ((h n).2 (List.mem_cons_of_mem _ hn)) with e | e
      · have := m1 n hn; omega
      · exact e
theorem expand_filter {a u : List R} (ha : IsSet a) (hu : IsSet u) (p : Int → Bool) (h : ∀ n, mem u n ↔ mem a n ∧ p n = true) : expand u = (expand a).filter p := by
  refine sorted_ext (expand_sorted hu) ((expand_sorted ha).filter _) fun n => ?_
  rw [mem_expand, h, List.mem_filter, mem_expand]
theorem filter_len {l : List Int} (p : Int → Bool) : (l.filter p).length + (l.filter fun n => !p n).length = l.length := by
  induction l with
  | nil => rfl
  | cons x l ih =>
    simp only [List.filter_cons]
    cases p x <;> simp <;> omega
/-- the parts of a set -/
theorem count_parts {a m d : List R} (ha : IsSet a) (hm : IsSet m) (hd : IsSet d) (p : Int → Bool) (h1 : ∀ n, mem m n ↔ mem a n ∧ p n = true) (h2 : ∀ n, mem d n ↔ mem a n ∧ p n = false) : countR a = countR m + countR d := by
  rw [← expand_len ha.1, ← expand_len hm.1, ← expand_len hd.1, expand_filter ha hm p h1, expand_filter ha hd (fun n => !p n) (fun n => by rw [h2]; simp)]
  have := filter_len (l := expand a) p
  omega
end Go.Proofs.Ytlbfkcgejpboeaa.Rs
