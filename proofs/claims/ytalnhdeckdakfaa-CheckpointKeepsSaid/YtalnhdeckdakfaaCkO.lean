/-
  Resources of a law's own: variables that are structs, lists of structs; regions that draw, joined behind.
-/
import Derived.Test.YtalnhdeckdakfaaSepL
namespace Go.Proofs.Ytalnhdeckdakfaa.Dev
open Go.RowKit Go.Proofs
set_option linter.unusedVariables false
set_option linter.unusedSectionVars false
set_option linter.unusedSimpArgs false
variable [Bs]

/-- a text whose ends are told as one: M of the act ahead and the act behind -/
theorem code_mid {P : Program} {c : Code} {Q : Exit → Act → World → Prop} {a : Act} {w : World} (M : Act → Act → World → Prop) (h1 : c.wp P (fun e a' w' => e = .normal ∧ M a a' w') a w) (h2 : ∀ a' w', M a a' w' → Q .normal a' w') : c.wp P Q a w :=
  Code.wp_mono (fun e a' w' h => by obtain ⟨rfl, h⟩ := h; exact h2 a' w' h) h1

theorem star_mono {A B B' : Own} (h : ∀ w S, B w S → B' w S) : ∀ w S, star A B w S → star A B' w S := by
  rintro w S ⟨S1, S2, h1, h2, hd, hs⟩
  exact ⟨S1, S2, h1, h w S2 h2, hd, hs⟩
theorem LS.le {w00 w : World} {A B : Own} (h : LS w00 A w) (k : ∀ w S, A w S → B w S) : LS w00 B w := by
  obtain ⟨S, h1, h2⟩ := h
  exact ⟨S, k w S h1, h2⟩
theorem star_rot (A B C : Own) : ∀ w S, star A (star B C) w S → star B (star A C) w S := by
  rintro w S ⟨S1, S2, h1, ⟨T1, T2, k1, k2, kd, ks⟩, hd, hs⟩
  refine ⟨T1, fun i => S1 i ∨ T2 i, k1, ⟨S1, T2, h1, k2, fun i h1 h2 => hd i h1 ((ks i).2 (.inr h2)), fun i => Iff.rfl⟩, fun i h1 h2 => ?_, fun i => ?_⟩
  · rcases h2 with h2 | h2
    · exact hd i h2 ((ks i).2 (.inl h1))
    · exact kd i h1 h2
  · rw [hs, ks]
    constructor
    · rintro (h | h | h)
      · exact .inr (.inl h)
      · exact .inl h
      · exact .inr (.inr h)
    · rintro (h | h | h)
      · exact .inr (.inl h)
      · exact .inl h
      · exact .inr (.inr h)
/-- a new resource behind the first two -/
theorem LS.sink {w00 w : World} {N T D R : Own} (h : LS w00 (star N (star T (star D R))) w) : LS w00 (star T (star D (star N R))) w :=
  h.rot.le (star_mono (star_rot N D R))
/-- a block of cells -/
def BlkO (g : Nat) (cs : Array Value) (t : TypeId) : Own := fun w S => w.heap[g]? = some (.cells cs t (0, 0)) ∧ t ≠ 5 ∧ Bs.n ≤ g ∧ ∀ i, S i ↔ i = g
theorem stable_blk (g : Nat) (cs : Array Value) (t : TypeId) : Stable (BlkO g cs t) where
  lt := by
    rintro w S i ⟨h, _, _, hs⟩ hi
    obtain rfl := (hs i).1 hi
    exact (Array.getElem?_eq_some_iff.1 h).1
  ge := by
    rintro w S i ⟨_, _, hb, hs⟩ hi
    obtain rfl := (hs i).1 hi
    exact hb
  no8 := by
    rintro w S i ⟨h, ht, hb, hs⟩ hi
    obtain rfl := (hs i).1 hi
    rintro (h1 | ⟨cs, fr, h1⟩)
    · omega
    · rw [h] at h1
      injection h1 with h1
      injection h1 with _ h1
      exact ht h1
  move := by
    rintro w w' S ⟨h, ht, hb, hs⟩ hm _
    exact ⟨(hm g ((hs g).2 rfl)).trans h, ht, hb, hs⟩
/-- a list of the law's own -/
def RowO (e : TypeId) (s : Nat) (v : Value) (n : Nat) (xs : List Value) : Own := fun w S => w.ownsRow Bs.n e s v n xs ∧ e ≠ 5 ∧ ∀ i, S i ↔ v.ownBlock = some i
theorem own_no8' {w : World} {v : Value} {e : TypeId} {s n : Nat} {cells : List Value} (he : e ≠ 5) (h : w.ownsRow Bs.n e s v n cells) {i : Nat} (hi : v.ownBlock = some i) : ¬ Own8 w i := by
  rcases h.2 with ⟨rfl, _⟩ | ⟨q, cap, cur, rfl, e2, e3, _⟩
  · cases hi
  · have e' : q = i := by simpa [Value.ownBlock] using hi
    subst e'
    rintro (h1 | ⟨cs, fr, h1⟩)
    · omega
    · rw [e3] at h1
      injection h1 with h1
      injection h1 with _ h1
      exact he h1
theorem stable_row (e : TypeId) (s : Nat) (v : Value) (n : Nat) (xs : List Value) : Stable (RowO e s v n xs) where
  lt := fun h hi => own_lt h.1 ((h.2.2 _).1 hi)
  ge := fun h hi => own_base h.1 _ ((h.2.2 _).1 hi)
  no8 := fun h hi => own_no8' h.2.1 h.1 ((h.2.2 _).1 hi)
  move := fun h hb _ => ⟨own_block h.1 fun i hi => hb i ((h.2.2 i).2 hi), h.2.1, h.2.2⟩
section
variable {w00 w : World} {A : Own}
theorem LS.blk {g : Nat} {cs : Array Value} {t : TypeId} (h : LS w00 (star (BlkO g cs t) A) w) : w.heap[g]? = some (.cells cs t (0, 0)) := by
  obtain ⟨S, ⟨S1, S2, h1, _⟩, _⟩ := h
  exact h1.1
theorem LS.row {e : TypeId} {s n : Nat} {v : Value} {xs : List Value} (h : LS w00 (star (RowO e s v n xs) A) w) : w.ownsRow Bs.n e s v n xs := by
  obtain ⟨S, ⟨S1, S2, h1, _⟩, _⟩ := h
  exact h1.1
theorem LS.cut {B : Own} (h : LS w00 (star A B) w) : LS w00 B w := h.drop
theorem blk_fresh (hA : Stable A) (h : LS w00 A w) (cs : Array Value) {t : TypeId} (ht : t ≠ 5) (hq : Bs.n ≤ w00.heap.size) : LS w00 (star (BlkO w.heap.size cs t) A) (w.alloc (.cells cs t)) ∧ U8 w (w.alloc (.cells cs t)) :=
  LS.fresh (B := BlkO w.heap.size cs t) hA h ((Below.refl _ _).alloc (Nat.le_refl _) _) (S1 := (· = w.heap.size)) ⟨heap_alloc_new w _, ht, Nat.le_trans hq h.size, fun i => Iff.rfl⟩ (fun i hi => Nat.le_of_eq hi.symm)
theorem sink_fresh {T D R : Own} (h : LS w00 (star T (star D R)) w) (hA : Stable (star T (star D R))) (cs : Array Value) {t : TypeId} (ht : t ≠ 5) (hq : Bs.n ≤ w00.heap.size) : LS w00 (star T (star D (star (BlkO w.heap.size cs t) R))) (w.alloc (.cells cs t)) :=
  (blk_fresh hA h cs ht hq).1.sink
theorem row_fresh (hA : Stable A) (h : LS w00 A w) (cs : Array Value) (n : Nat) {e : TypeId} {s : Nat} (ht : e ≠ 5) (hq : Bs.n ≤ w00.heap.size) (hn : n ≤ maxLen) (hs : cs.size = n * s) : LS w00 (star (RowO e s (.slice (some ⟨w.heap.size, 0, none⟩) n n) n cs.toList) A) (w.alloc (.cells cs e)) ∧ U8 w (w.alloc (.cells cs e)) :=
  LS.fresh (B := RowO e s (.slice (some ⟨w.heap.size, 0, none⟩) n n) n cs.toList) hA h ((Below.refl _ _).alloc (Nat.le_refl _) _) (S1 := (· = w.heap.size)) ⟨World.ownsRow_lit w cs n (Nat.le_trans hq h.size) hn hs, ht, fun i => by simp [Value.ownBlock, eq_comm]⟩ (fun i hi => Nat.le_of_eq hi.symm)
/-- new cells in a block of the law's own -/
theorem LS.set {g : Nat} {cs : Array Value} {t : TypeId} (hA : Stable A) (h : LS w00 (star (BlkO g cs t) A) w) (i : Nat) (v : Value) : LS w00 (star (BlkO g (cs.setIfInBounds i v) t) A) (w.setCell ⟨g, i, none⟩ v) ∧ U8 w (w.setCell ⟨g, i, none⟩ v) := by
  have hb := h.blk
  refine h.step (stable_blk g cs t) hA fun S h1 hl => ⟨S, ⟨heap_setCell_same _ g i _ _ v hb, h1.2.1, h1.2.2.1, h1.2.2.2⟩, Fr.setCell ((h1.2.2.2 g).2 rfl) v, fun i hi => .inl hi⟩
/-- three new cells in a block of the law's own -/
theorem LS.set3 {g : Nat} {a b c : Value} {t : TypeId} (hA : Stable A) (h : LS w00 (star (BlkO g #[a, b, c] t) A) w) (x y z : Value) :
    LS w00 (star (BlkO g #[x, y, z] t) A) (((w.setCell ⟨g, 0, none⟩ x).setCell ⟨g, 1, none⟩ y).setCell ⟨g, 2, none⟩ z) ∧ U8 w (((w.setCell ⟨g, 0, none⟩ x).setCell ⟨g, 1, none⟩ y).setCell ⟨g, 2, none⟩ z) := by
  have h1 := LS.set hA h 0 x
  have h2 := LS.set hA h1.1 1 y
  have h3 := LS.set hA h2.1 2 z
  exact ⟨h3.1, h1.2.trans (h2.2.trans h3.2)⟩
theorem LS.rise {N T D R : Own} (h : LS w00 (star T (star D (star N R))) w) : LS w00 (star N (star T (star D R))) w :=
  (h.le (star_mono (star_rot D N R))).rot
/-- three new cells in a block of the law's own that lies behind two resources -/
theorem set3_deep {T D R : Own} {g : Nat} {a b c : Value} {t : TypeId} (h : LS w00 (star T (star D (star (BlkO g #[a, b, c] t) R))) w) (hA : Stable (star T (star D R))) (x y z : Value) :
    LS w00 (star T (star D (star (BlkO g #[x, y, z] t) R))) (((w.setCell ⟨g, 0, none⟩ x).setCell ⟨g, 1, none⟩ y).setCell ⟨g, 2, none⟩ z) ∧ U8 w (((w.setCell ⟨g, 0, none⟩ x).setCell ⟨g, 1, none⟩ y).setCell ⟨g, 2, none⟩ z) := by
  have h1 := LS.set3 hA h.rise x y z
  exact ⟨h1.1.sink, h1.2⟩
theorem sink_fresh2 {T D R : Own} (h : LS w00 (star T (star D R)) w) (hA : Stable (star T (star D R))) (cs : Array Value) {t : TypeId} (ht : t ≠ 5) (hq : Bs.n ≤ w00.heap.size) : LS w00 (star T (star D (star (BlkO w.heap.size cs t) R))) (w.alloc (.cells cs t)) ∧ U8 w (w.alloc (.cells cs t)) :=
  ⟨(blk_fresh hA h cs ht hq).1.sink, (blk_fresh hA h cs ht hq).2⟩
/-- append to a list of the law's own -/
theorem append_row {P : Program} (hP : P = Try.prog) (hA : Stable A) {e t ty : TypeId} {s n m c bytes : Nat} {z v : Value} {xs news : List Value} {ad : Addr} (h : LS w00 (star (RowO e s v n xs) A) w) (hq : Bs.n ≤ w00.heap.size)
    (ht : P.underlying t = some (.slice e)) (hi : (P.info? e).map (fun i => (i.zero, i.size, i.bytes)) = some (some z, s, bytes)) (hzs : z.cells.size = s) (hs0 : 0 < s)
    (hl : news.length = m * s) (hnews : ∀ j u, news[j]? = some u → w.cell? (ad.add j) = some u) (h1 : ∀ u ∈ news, u.oneCell' = true) (hn : n + m ≤ 1000000000) (hbytes : bytes ≤ 100000) :
    ∃ v' w', (Builtin.append_ #[t, t] ty #[v, .slice (some ad) m c]).run P w = .ok v' w' ∧ LS w00 (star (RowO e s v' (n + m) (xs ++ news)) A) w' ∧ U8 w w' := by
  obtain ⟨i0, hi0, hzz⟩ := Option.map_eq_some_iff.1 hi
  simp only [Prod.mk.injEq] at hzz
  have hm : (n + m) * bytes ≤ 1000000000 * 100000 := Nat.mul_le_mul hn hbytes
  obtain ⟨v1, w1, hr, h2, h3, _, h5⟩ := run_append_own_at (P := P) w Bs.n t ty e i0 z s bytes ht hi0 hzz.1 hzz.2.1 hzz.2.2 hzs hs0 v n xs h.row ad m c news hl hnews h1 (by simp only [maxLen]; omega) (by omega) (Nat.le_trans hq h.size)
  refine ⟨v1, w1, hr, ?_⟩
  refine h.step (stable_row e s v n xs) hA fun S k1 hl0 => ⟨fun i => v1.ownBlock = some i, ⟨h2, k1.2.1, fun i => Iff.rfl⟩, ?_, fun i hi => ?_⟩
  · have hb : Below w.heap.size w w1 ∨ True := .inr trivial
    exact ⟨h3.os, h3.tape, h3.output, h3.size, fun i hi hn => h3.block i hi fun e => hn ((k1.2.2 i).2 e.symm)⟩
  · rcases h5 with h5 | h5
    · exact .inl ((k1.2.2 i).2 (h5 ▸ hi))
    · rw [h5] at hi
      injection hi with hi
      exact .inr (Nat.le_of_eq hi)
end
/-- what is let go of -/
def OLe (A B : Own) : Prop := ∀ w S, A w S → ∃ S', B w S' ∧ ∀ i, S' i → S i
theorem OLe.emp (A : Own) : OLe A emp := fun w S _ => ⟨fun _ => False, fun _ h => h, fun _ h => h.elim⟩
theorem OLe.tail {A B B' : Own} (h : OLe B B') : OLe (star A B) (star A B') := by
  rintro w S ⟨S1, S2, h1, h2, hd, hs⟩
  obtain ⟨S', k1, k2⟩ := h w S2 h2
  exact ⟨fun i => S1 i ∨ S' i, ⟨S1, S', h1, k1, fun i a b => hd i a (k2 i b), fun i => Iff.rfl⟩, fun i hi => (hs i).2 (hi.imp id (k2 i))⟩
theorem LS.less {w00 w : World} {A B : Own} (h : LS w00 A w) (k : OLe A B) : LS w00 B w := by
  obtain ⟨S, h1, h2⟩ := h
  obtain ⟨S', k1, _⟩ := k w S h1
  exact ⟨S', k1, h2⟩
/-- where the elements of a list lie -/
theorem row_addr {w : World} {base sz : Nat} {e : TypeId} {n : Nat} {v : Value} {xs : List Value} (h : w.ownsRow base e sz v n xs) (hn : 0 < n) : ∃ g c, v = .slice (some ⟨g, 0, none⟩) n c ∧ base ≤ g ∧ n ≤ c ∧ c ≤ maxLen ∧ (∀ i, i < n * sz → w.cell? ⟨g, i, none⟩ = xs[i]?) ∧ ∀ i, w.frozen? ⟨g, i, none⟩ = false := by
  rcases h.2 with ⟨h1, h2⟩ | ⟨g, cap, cur, h1, h2, h3, h4, h5, h6, h7⟩
  · omega
  · refine ⟨g, cap, h1, h2, h4, h5, fun i hi => ?_, fun i => blk_frozen h3 i⟩
    rw [blk_cell h3 i, ← h7, List.getElem?_take]
    rw [if_pos hi, Array.getElem?_toList]
/-- a block as a list -/
theorem LS.toRow {w00 w : World} {A : Own} {g n s : Nat} {cs : Array Value} {t : TypeId} (h : LS w00 (star (BlkO g cs t) A) w) (hs : cs.size = n * s) (hn : n ≤ maxLen) : LS w00 (star (RowO t s (.slice (some ⟨g, 0, none⟩) n n) n cs.toList) A) w := by
  refine h.le ?_
  rintro w S ⟨S1, S2, ⟨h1, h2, h3, h4⟩, k2, kd, ks⟩
  refine ⟨S1, S2, ⟨⟨by simp [hs], .inr ⟨g, n, cs, rfl, h3, h1, Nat.le_refl _, hn, hs, ?_⟩⟩, h2, fun i => ?_⟩, k2, kd, ks⟩
  · rw [List.take_of_length_le (by simp [hs])]
  · rw [h4]; simp [Value.ownBlock, eq_comm]
section
variable {w00 w : World} {t i : Nat} {xs : List Int} {B : Own} {K : Ending → World → Prop}
theorem next_K {n : Int} (h : LS w00 (star (TapeO w00 t xs i) B) w) (hB : Stable B) (hq : Bs.n ≤ w00.heap.size) (hi : i ≤ 800000000) (hn : n ≤ 9223372036854775807)
    (k : ∀ w', LS w00 (star (TapeO w00 t xs (i + 1)) B) w' → U8 w w' → K (.returned (.int .i64 (tnext xs i n))) w') : Calls Try.prog 13 #[.pointer (some ⟨t, 0, none⟩), .int .i64 n] w K :=
  (next_L hB hq h hi n hn).mono fun e w' ⟨he, h1, h2⟩ => by subst he; exact k w' h1 h2
theorem bytes_K {n : Nat} {m : Int} (h : LS w00 (star (TapeO w00 t xs i) B) w) (hB : Stable B) (hq : Bs.n ≤ w00.heap.size) (hi : i ≤ 800000000) (hn : n ≤ 1000000) (hm : 1 ≤ m ∧ m ≤ 256)
    (k : ∀ a c w', Rd w' (.slice a n c) (tbytes xs i n m) → LS w00 (star (TapeO w00 t xs (i + n)) B) w' → U8 w w' → K (.returned (.slice a n c)) w') : Calls Try.prog 14 #[.pointer (some ⟨t, 0, none⟩), .int .i64 n, .int .i64 m] w K :=
  (bytes_L hB hq h hi n hn m hm).mono fun e w' ⟨v, he, hv, h1, h2⟩ => by
    subst he
    obtain ⟨a, c, e1, h3⟩ := hv
    subst e1
    rw [tbytes_len]
    exact k a c w' (by rw [← tbytes_len xs i n m]; simp only [tbytes_len]; exact ⟨a, c, by rw [tbytes_len], h3⟩) h1 h2
end
section
variable {ops : Array Oper} {rest : List Oper} {Q : Exit → Act → World → Prop} {a : Act} {o : Oper} {w00 W : World} {A : Own}
theorem wpList_append_row (hA : Stable A) (hq : Bs.n ≤ w00.heap.size) (hgd : o.guard = none) (sl x : Operand) (t e : TypeId) (ho : o.op = .call { callee := .builtin .append, args := #[sl, x], argTypes := #[t, t] })
    (ht : Try.prog.underlying t = some (.slice e)) {s n m c bytes : Nat} {z : Value} (hi : (Try.prog.info? e).map (fun i => (i.zero, i.size, i.bytes)) = some (some z, s, bytes)) (hzs : z.cells.size = s) (hs0 : 0 < s)
    (v : Value) {xs : List Value} (news : List Value) {ad : Addr} (hsv : a.eval sl = v) (hxv : a.eval x = .slice (some ad) m c) (H : LS w00 (star (RowO e s v n xs) A) W)
    (hl : news.length = m * s) (hnews : ∀ j u, news[j]? = some u → W.cell? (ad.add j) = some u) (h1 : ∀ u ∈ news, u.oneCell' = true) (hn : n + m ≤ 1000000000) (hbytes : bytes ≤ 100000)
    (h : ∀ v1 w1, LS w00 (star (RowO e s v1 (n + m) (xs ++ news)) A) w1 → U8 W w1 → wpList Try.prog ops Q rest (a.put o.dst v1) w1) :
    wpList Try.prog ops Q (o :: rest) a W := by
  obtain ⟨v1, w1, hr, h2, h3⟩ := append_row (ty := o.type) (c := c) rfl hA H hq ht hi hzs hs0 hl hnews h1 hn hbytes
  exact Lib.wpList_append_run W hgd sl x t t ho v _ hsv hxv v1 w1 hr (h v1 w1 h2 h3)
end
end Go.Proofs.Ytalnhdeckdakfaa.Dev
