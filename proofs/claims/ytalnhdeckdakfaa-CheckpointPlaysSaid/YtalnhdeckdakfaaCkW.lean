/-
  An array of a law's own by its cells; the state of CheckpointPlays (plain).
-/
import Derived.Test.YtalnhdeckdakfaaCkN
import Derived.Test.YtalnhdeckdakfaaLEvery32
namespace Go.Proofs.Ytalnhdeckdakfaa.Dev
open Go.RowKit Go.Proofs Co
set_option linter.unusedVariables false
set_option linter.unusedSectionVars false
set_option linter.unusedSimpArgs false
variable [Bs]

/-- an array of n cells, told one by one -/
def ArrO (g n : Nat) (f : Nat → Value) (t : TypeId) : Own := fun w S => (∃ cs, w.heap[g]? = some (.cells cs t (0, 0)) ∧ cs.size = n ∧ ∀ j, j < n → cs[j]? = some (f j)) ∧ t ≠ 5 ∧ Bs.n ≤ g ∧ ∀ i, S i ↔ i = g
theorem stable_arr (g n : Nat) (f : Nat → Value) (t : TypeId) : Stable (ArrO g n f t) where
  lt := by
    rintro w S i ⟨⟨cs, h, _⟩, _, _, hs⟩ hi
    obtain rfl := (hs i).1 hi
    exact (Array.getElem?_eq_some_iff.1 h).1
  ge := by
    rintro w S i ⟨_, _, hb, hs⟩ hi
    obtain rfl := (hs i).1 hi
    exact hb
  no8 := by
    rintro w S i ⟨⟨cs, h, _⟩, ht, hb, hs⟩ hi
    obtain rfl := (hs i).1 hi
    rintro (h1 | ⟨cs, fr, h1⟩)
    · omega
    · rw [h] at h1
      injection h1 with h1
      injection h1 with _ h1
      exact ht h1
  move := by
    rintro w w' S ⟨⟨cs, h, h1⟩, ht, hb, hs⟩ hm _
    exact ⟨⟨cs, (hm g ((hs g).2 rfl)).trans h, h1⟩, ht, hb, hs⟩
section
variable {w00 w : World} {A : Own} {g n : Nat} {f : Nat → Value} {t : TypeId}
theorem LS.arr (h : LS w00 (star (ArrO g n f t) A) w) : (∀ j, j < n → w.cell? ⟨g, j, none⟩ = some (f j)) ∧ ∀ j, w.frozen? ⟨g, j, none⟩ = false := by
  obtain ⟨S, ⟨S1, S2, ⟨⟨cs, h1, h2, h3⟩, _⟩, _⟩, _⟩ := h
  exact ⟨fun j hj => (blk_cell h1 j).trans (h3 j hj), fun j => blk_frozen h1 j⟩
theorem arr_le {f' : Nat → Value} (h : ∀ j, j < n → f j = f' j) : ∀ w S, ArrO g n f t w S → ArrO g n f' t w S := by
  rintro w S ⟨⟨cs, h1, h2, h3⟩, h4⟩
  exact ⟨⟨cs, h1, h2, fun j hj => (h3 j hj).trans (by rw [h j hj])⟩, h4⟩
theorem star_le {A A' B : Own} (h : ∀ w S, A w S → A' w S) : ∀ w S, star A B w S → star A' B w S := by
  rintro w S ⟨S1, S2, h1, h2, hd⟩
  exact ⟨S1, S2, h w S1 h1, h2, hd⟩
theorem arr_set (hA : Stable A) (h : LS w00 (star (ArrO g n f t) A) w) (i : Nat) (v : Value) : LS w00 (star (ArrO g n (fun j => if j = i then v else f j) t) A) (w.setCell ⟨g, i, none⟩ v) ∧ U8 w (w.setCell ⟨g, i, none⟩ v) := by
  refine h.step (stable_arr g n f t) hA fun S h1 hl => ⟨S, ?_, Fr.setCell ((h1.2.2.2 g).2 rfl) v, fun i hi => .inl hi⟩
  obtain ⟨⟨cs, h1, h2, h3⟩, h4⟩ := h1
  refine ⟨⟨cs.setIfInBounds i v, heap_setCell_same w g i _ _ v h1, by simp [h2], fun j hj => ?_⟩, h4⟩
  rw [Array.getElem?_setIfInBounds]
  by_cases e : j = i
  · subst e
    simp [h2, hj]
  · rw [if_neg (Ne.symm e), h3 j hj]
    simp [e]
theorem arr_fresh (hA : Stable A) (h : LS w00 A w) (cs : Array Value) (ht : t ≠ 5) (hq : Bs.n ≤ w00.heap.size) (hs : cs.size = n) (hf : ∀ j, j < n → cs[j]? = some (f j)) : LS w00 (star (ArrO w.heap.size n f t) A) (w.alloc (.cells cs t)) ∧ U8 w (w.alloc (.cells cs t)) :=
  LS.fresh (B := ArrO w.heap.size n f t) hA h ((Below.refl _ _).alloc (Nat.le_refl _) _) (S1 := (· = w.heap.size)) ⟨⟨cs, heap_alloc_new w _, hs, hf⟩, ht, Nat.le_trans hq h.size, fun i => Iff.rfl⟩ (fun i hi => Nat.le_of_eq hi.symm)
end

/-! CheckpointPlays: plain -/
def pn : Nat → ByteArray
  | 0 => ⟨#[97]⟩
  | 1 => ⟨#[97, 98]⟩
  | 2 => ⟨#[97, 45, 98]⟩
  | 3 => ⟨#[65]⟩
  | _ => ⟨#[]⟩
theorem pn_v {i : Nat} (h : i < 3) : vname (pn i) = true := by
  match i, h with
  | 0, _ => show vname ⟨#[97]⟩ = true; kernel_rfl
  | 1, _ => show vname ⟨#[97, 98]⟩ = true; kernel_rfl
  | 2, _ => show vname ⟨#[97, 45, 98]⟩ = true; kernel_rfl
theorem pn_nv {i : Nat} (h : 3 ≤ i) : vname (pn i) = false := by
  match i, h with
  | 3, _ => show vname ⟨#[65]⟩ = false; kernel_rfl
  | n + 4, _ => show vname ⟨#[]⟩ = false; kernel_rfl
theorem pn_sz (i : Nat) : (pn i).size ≤ 3 := by
  match i with
  | 0 => exact leb (by kernel_rfl)
  | 1 => exact leb (by kernel_rfl)
  | 2 => exact leb (by kernel_rfl)
  | 3 => exact leb (by kernel_rfl)
  | n + 4 => show ByteArray.size ⟨#[]⟩ ≤ 3; exact leb (by kernel_rfl)
theorem pn_inj {i j : Nat} (hi : i < 3) (hj : j < 3) (h : pn i = pn j) : i = j := by
  match i, hi, j, hj with
  | 0, _, 0, _ => rfl
  | 1, _, 1, _ => rfl
  | 2, _, 2, _ => rfl
  | 0, _, 1, _ => exact absurd h (by decide)
  | 0, _, 2, _ => exact absurd h (by decide)
  | 1, _, 0, _ => exact absurd h (by decide)
  | 1, _, 2, _ => exact absurd h (by decide)
  | 2, _, 0, _ => exact absurd h (by decide)
  | 2, _, 1, _ => exact absurd h (by decide)
theorem cfile_inj {k l : ByteArray} {s t : Nat} (h : cfile k s = cfile l t) : k = l := by
  have h1 := congrArg (fun b => b.data.toList) h
  simp only [cfile_data] at h1
  have h2 := congrArg List.length h1
  simp only [List.length_append, List.length_cons, List.length_nil] at h2
  have h3 := (List.append_inj h1 (by omega)).1
  have h4 : k.data = l.data := Array.ext' h3
  cases k; cases l
  simp only at h4
  rw [h4]
def upd {α : Type} (f : Nat → α) (i : Nat) (a : α) (j : Nat) : α := if j = i then a else f j
theorem upd_same {α : Type} (f : Nat → α) (i : Nat) (a : α) : upd f i a i = a := if_pos rfl
theorem upd_ne {α : Type} (f : Nat → α) {i j : Nat} (a : α) (h : j ≠ i) : upd f i a j = f j := if_neg h
structure PI (m : Nat) (cs : Nat → CP) (st : DS) : Prop where
  clean : Clean m st
  fuse : st.fuse = 0
  at_ : ∀ i, i < 3 → At (pn i) (cs i) st.dur
  zero : ∀ i, 3 ≤ i → cs i = CP.zero
  turn : ∀ i, (cs i).turn ≤ m
  pos : ∀ i, (cs i).pos ≤ 4 * m
  len : ∀ i, (cs i).st.length ≤ 8
theorem PI.new : PI 0 (fun _ => CP.zero) DS.new := ⟨Clean.new, rfl, fun i _ => At.new _, fun _ _ => rfl, fun _ => Nat.le_refl _, fun _ => Nat.le_refl _, fun _ => by simp [CP.zero]⟩
theorem PI.same {m : Nat} {cs : Nat → CP} {st : DS} (h : PI m cs st) (i : Nat) : PI (m + 1) (upd cs i (cs i)) st := by
  have e : upd cs i (cs i) = cs := by
    funext j
    unfold upd
    split
    · next h => rw [h]
    · rfl
  rw [e]
  exact ⟨h.clean.mono (by omega), h.fuse, h.at_, h.zero, fun j => by have := h.turn j; omega, fun j => by have := h.pos j; omega, h.len⟩
theorem plays_step {m : Nat} {cs : Nat → CP} {st : DS} (h : PI m cs st) (hm : m < 200) (i : Nat) {r : Int} (hr : 0 ≤ r ∧ r ≤ 4) {b : List Int} (hb : BL b) (hl : b.length ≤ 8) :
    ∃ st' c' er, saveD st (pn i) (((cs i).pos : Int) + r - 1) b = (st', er) ∧ refSave (cs i).pos (cs i).st (decide ((cs i).turn ≠ 0)) (pn i) (((cs i).pos : Int) + r - 1) b = ((c'.pos : Int), c'.st, decide (c'.turn ≠ 0), er) ∧ PI (m + 1) (upd cs i c') st' := by
  have ht := h.turn i
  have hp := h.pos i
  by_cases hi : i < 3
  · have hA := h.at_ i hi
    have hv := pn_v hi
    by_cases hlow : ((cs i).pos : Int) + r - 1 < (cs i).pos
    · refine ⟨st, cs i, 321, ?_, ?_, h.same i⟩
      · unfold saveD
        rw [newest_clean h.clean hv hA, if_neg (by rw [hv]; simp), if_neg (by simp), if_pos (.inr hlow)]
      · unfold refSave
        rw [if_neg (by rw [hv]; simp), if_pos]
        by_cases h0 : (cs i).turn = 0
        · left
          have := hA.zero h0
          rw [this] at hlow ⊢
          exact hlow
        · right
          exact ⟨by simp [h0], hlow⟩
    · obtain ⟨e, C, A⟩ := save_still h.clean (by omega) hv hA (by omega) (pos := ((cs i).pos : Int) + r - 1) (by omega) (by omega) (by omega) (b := b) (by omega) h.fuse hb
      refine ⟨_, ⟨(cs i).turn + 1, (((cs i).pos : Int) + r - 1).toNat, b⟩, 0, e, ?_, ⟨C, rfl, fun j hj => ?_, fun j hj => ?_, fun j => ?_, fun j => ?_, fun j => ?_⟩⟩
      · unfold refSave
        rw [if_neg (by rw [hv]; simp), if_neg (by rintro (h | ⟨_, h⟩) <;> omega), if_neg (by omega)]
        have : ((((cs i).pos : Int) + r - 1).toNat : Int) = ((cs i).pos : Int) + r - 1 := by omega
        simp only [this]
        simp
      · by_cases hji : j = i
        · subst hji
          rw [upd_same]
          exact A
        · rw [upd_ne _ _ hji]
          have hne : ∀ s, cfile (pn j) s ≠ cfile (pn i) ((cs i).turn + 1) := fun s e => hji (pn_inj hj hi (cfile_inj e))
          exact (h.at_ j hj).same (FS.get_put_ne (hne 0) _ _) (FS.get_put_ne (hne 1) _ _)
      · rw [upd_ne _ _ (by omega)]
        exact h.zero j hj
      · unfold upd
        split
        · show (cs i).turn + 1 ≤ m + 1; omega
        · have := h.turn j; omega
      · unfold upd
        split
        · show (((cs i).pos : Int) + r - 1).toNat ≤ 4 * (m + 1); omega
        · have := h.pos j; omega
      · unfold upd
        split
        · exact hl
        · exact h.len j
  · have hv := pn_nv (i := i) (by omega)
    refine ⟨st, cs i, 323, ?_, ?_, h.same i⟩
    · unfold saveD
      rw [if_pos hv]
    · unfold refSave
      rw [if_pos hv]
/-- the cells of the law's list of checkpoints -/
def wcell (cs : Nat → CP) (sl : Nat → Option Addr × Nat) (j : Nat) : Value :=
  if j % 3 = 0 then .int .i64 (cs (j / 3)).pos else if j % 3 = 1 then .slice (sl (j / 3)).1 (cs (j / 3)).st.length (sl (j / 3)).2 else .bool (decide ((cs (j / 3)).turn ≠ 0))
theorem wcell0 (cs : Nat → CP) (sl : Nat → Option Addr × Nat) (i : Nat) : wcell cs sl (i * 3) = .int .i64 (cs i).pos := by
  unfold wcell
  rw [if_pos (by omega), show i * 3 / 3 = i by omega]
theorem wcell1 (cs : Nat → CP) (sl : Nat → Option Addr × Nat) (i : Nat) : wcell cs sl (i * 3 + 1) = .slice (sl i).1 (cs i).st.length (sl i).2 := by
  unfold wcell
  rw [if_neg (by omega), if_pos (by omega), show (i * 3 + 1) / 3 = i by omega]
theorem wcell2 (cs : Nat → CP) (sl : Nat → Option Addr × Nat) (i : Nat) : wcell cs sl (i * 3 + 2) = .bool (decide ((cs i).turn ≠ 0)) := by
  unfold wcell
  rw [if_neg (by omega), if_neg (by omega), show (i * 3 + 2) / 3 = i by omega]
theorem wcell_upd (cs : Nat → CP) (sl : Nat → Option Addr × Nat) (i : Nat) (c : CP) (s : Option Addr × Nat) (j : Nat) :
    (if j = i * 3 + 2 then Value.bool (decide (c.turn ≠ 0)) else if j = i * 3 + 1 then .slice s.1 c.st.length s.2 else if j = i * 3 then .int .i64 c.pos else wcell cs sl j) = wcell (upd cs i c) (upd sl i s) j := by
  by_cases h2 : j = i * 3 + 2
  · rw [if_pos h2, h2, wcell2, upd_same]
  rw [if_neg h2]
  by_cases h1 : j = i * 3 + 1
  · rw [if_pos h1, h1, wcell1, upd_same, upd_same]
  rw [if_neg h1]
  by_cases h0 : j = i * 3
  · rw [if_pos h0, h0, wcell0, upd_same]
  rw [if_neg h0]
  unfold wcell
  rw [upd_ne _ _ (show j / 3 ≠ i by omega), upd_ne _ _ (show j / 3 ≠ i by omega)]
end Go.Proofs.Ytalnhdeckdakfaa.Dev
