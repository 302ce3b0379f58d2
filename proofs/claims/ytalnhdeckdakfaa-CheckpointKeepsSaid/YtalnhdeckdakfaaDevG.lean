/-
  The device as one thing: its state in a world, and what an operation leaves.
-/
import Derived.Test.YtalnhdeckdakfaaDevF
namespace Go.Proofs.Ytalnhdeckdakfaa.Dev
open Go.RowKit Go.Proofs
set_option linter.unusedVariables false
set_option linter.unusedSectionVars false
set_option linter.unusedSimpArgs false
variable [Bs]

structure DevW (w : World) (d : Nat) (st : DS) (S : Nat → Prop) (rd rn : Nat) (pv : Value) (cells : List Value) : Prop where
  blk : DevB w d (.map (some rd)) (.map (some rn)) pv st.fuse st.down
  dur : MapI w rd st.dur
  now : MapI w rn st.now
  own : w.ownsRow Bs.n 90 5 pv st.pend.length cells
  ops : OpsR w cells st.pend
  ne : rd ≠ rn
  base : Bs.n ≤ d
  set : ∀ i, S i ↔ (i = d ∨ i = rd ∨ i = rn ∨ pv.ownBlock = some i)
/-- At d lies a device in state st; S: its blocks. -/
def DevI (w : World) (d : Nat) (st : DS) (S : Nat → Prop) : Prop := ∃ rd rn pv cells, DevW w d st S rd rn pv cells
/-- what a call leaves -/
def Res (w w' : World) (d : Nat) (st : DS) (S : Nat → Prop) : Prop := ∃ S', DevI w' d st S' ∧ Fr S w w' ∧ ∀ i, S' i → S i ∨ w.heap.size ≤ i

section
variable {w w' : World} {d rd rn : Nat} {st : DS} {S : Nat → Prop} {pv : Value} {cells : List Value}
theorem own_lt {w : World} {base n : Nat} {e : TypeId} {s : Nat} {v : Value} {xs : List Value} (h : w.ownsRow base e s v n xs) {i : Nat} (hi : v.ownBlock = some i) : i < w.heap.size := by
  rcases h.2 with ⟨rfl, _⟩ | ⟨g, cap, cur, rfl, _, hh, _⟩
  · cases hi
  · have : g = i := by simpa [Value.ownBlock] using hi
    subst this
    exact (Array.getElem?_eq_some_iff.1 hh).1
theorem DevW.no8 (h : DevW w d st S rd rn pv cells) {i : Nat} (hi : S i) : ¬ Own8 w i := by
  rcases (h.set i).1 hi with rfl | rfl | rfl | e
  · exact h.blk.no8 h.base
  · exact h.dur.no8
  · exact h.now.no8
  · exact own_no8 h.own e
theorem DevW.lt (h : DevW w d st S rd rn pv cells) {i : Nat} (hi : S i) : i < w.heap.size := by
  rcases (h.set i).1 hi with rfl | rfl | rfl | e
  · exact h.blk.lt
  · exact h.dur.lt
  · exact h.now.lt
  · exact own_lt h.own e
theorem DevW.ge (h : DevW w d st S rd rn pv cells) {i : Nat} (hi : S i) : Bs.n ≤ i := by
  rcases (h.set i).1 hi with rfl | rfl | rfl | e
  · exact h.base
  · exact h.dur.1
  · exact h.now.1
  · exact own_base h.own _ e
theorem own_block {base n : Nat} {e : TypeId} {s : Nat} {v : Value} {xs : List Value} (h : w.ownsRow base e s v n xs) (hb : ∀ i, v.ownBlock = some i → w'.heap[i]? = w.heap[i]?) : w'.ownsRow base e s v n xs := by
  refine ⟨h.1, ?_⟩
  rcases h.2 with hz | ⟨q, cap, cur, rfl, e2, e3, e4⟩
  · exact .inl hz
  · exact .inr ⟨q, cap, cur, rfl, e2, (hb q rfl).trans e3, e4⟩
theorem DevW.move (h : DevW w d st S rd rn pv cells) (hb : ∀ i, S i → w'.heap[i]? = w.heap[i]?) (hu : U8 w w') : DevW w' d st S rd rn pv cells where
  blk := (hb d ((h.set d).2 (.inl rfl))).trans h.blk
  dur := h.dur.move (hb _ ((h.set _).2 (.inr (.inl rfl)))) hu
  now := h.now.move (hb _ ((h.set _).2 (.inr (.inr (.inl rfl))))) hu
  own := own_block h.own fun i hi => hb _ ((h.set _).2 (.inr (.inr (.inr hi))))
  ops := h.ops.move hu
  ne := h.ne
  base := h.base
  set := h.set
theorem DevI.no8 (h : DevI w d st S) {i : Nat} (hi : S i) : ¬ Own8 w i := let ⟨_, _, _, _, h⟩ := h; h.no8 hi
theorem DevI.lt (h : DevI w d st S) {i : Nat} (hi : S i) : i < w.heap.size := let ⟨_, _, _, _, h⟩ := h; h.lt hi
theorem DevI.ge (h : DevI w d st S) {i : Nat} (hi : S i) : Bs.n ≤ i := let ⟨_, _, _, _, h⟩ := h; h.ge hi
theorem DevI.move (h : DevI w d st S) (hb : ∀ i, S i → w'.heap[i]? = w.heap[i]?) (hu : U8 w w') : DevI w' d st S := let ⟨rd, rn, pv, cells, h⟩ := h; ⟨rd, rn, pv, cells, h.move hb hu⟩
theorem DevI.below (h : DevI w d st S) (hb : Below w.heap.size w w') : DevI w' d st S := h.move (fun i hi => hb.block i (h.lt hi)) (U8.below hb)
theorem DevI.u8 (h : DevI w d st S) (hf : Fr S w w') : U8 w w' := hf.u8 fun i hi => h.no8 hi
/-- another's frame -/
theorem DevI.fr {T : Nat → Prop} (h : DevI w d st S) (hf : Fr T w w') (hn : ∀ i, S i → ¬ T i) (hu : U8 w w') : DevI w' d st S := h.move (fun i hi => hf.block i (h.lt hi) (hn i hi)) hu
theorem Res.pre {w1 : World} (hb : Below w.heap.size w w1) (h : Res w1 w' d st S) : Res w w' d st S := by
  obtain ⟨S', h1, h2, h3⟩ := h
  exact ⟨S', h1, (Fr.below hb).trans h2, fun i hi => (h3 i hi).imp id fun e => Nat.le_trans hb.size e⟩
theorem Res.stay (h : DevI w d st S) (hb : Below w.heap.size w w') : Res w w' d st S := ⟨S, h.below hb, Fr.below hb, fun i hi => .inl hi⟩
end

theorem perform_no {w : World} {d rn : Nat} {m1 pv : Value} {down : Bool} (h : DevB w d m1 (.map (some rn)) pv 1 down) (o : Op) {A : Option Addr} {n c : Nat} :
    Calls Try.prog 58 #[.pointer (some ⟨d, 0, none⟩), .agg #[fnOf o.kind, .string o.name, .string o.to, .slice A n c, .bool o.writes]] w fun e w' => e = .returned (.int .i64 303) ∧
      DevB w' d m1 (.map (some rn)) pv 0 true ∧ Fr (· = d) w w' := by
  have hb0 : Below w.heap.size w (w.alloc (.cells #[fnOf o.kind, .string o.name, .string o.to, .slice A n c, .bool o.writes] 90)) := (Below.refl _ _).alloc (Nat.le_refl _) _
  have hD1 : DevB (w.alloc (.cells #[fnOf o.kind, .string o.name, .string o.to, .slice A n c, .bool o.writes] 90)) d m1 (.map (some rn)) pv 1 down := blk_below h hb0
  go_enter Try.func58, Try.ntmps58
  go_wp2_with fail
  refine (burn_out' hD1).mono ?_
  rintro e w1 ⟨rfl, hDb, hFb⟩
  have HD := Lib.hid hDb
  have HF := Lib.hid ((Fr.below hb0).trans hFb)
  clear hDb hFb hb0 hD1 h
  go_wp2
  go_ret
  exact ⟨rfl, HD.out, HF.out⟩

theorem perform_calls {w : World} {d : Nat} {st : DS} {S : Nat → Prop} (h : DevI w d st S) (hf0 : 0 ≤ st.fuse) (hf1 : st.fuse ≤ 1000000) (o : Op) (hk : o.ok) {v : Value} (hv : Rd w v o.b)
    (hl : ((st.now.get o.name).getD []).length + o.b.length ≤ 140737488355328) (hn : st.pend.length ≤ 100000) :
    Calls Try.prog 58 #[.pointer (some ⟨d, 0, none⟩), .agg #[fnOf o.kind, .string o.name, .string o.to, v, .bool o.writes]] w fun e w' => e = .returned (.int .i64 (st.perform o).2) ∧ Res w w' d (st.perform o).1 S := by
  obtain ⟨rd, rn, pv, cells, h⟩ := h
  by_cases h1 : st.fuse = 1
  · have hp : st.perform o = ({ st with fuse := 0, down := true }, 303) := by simp [DS.perform, DS.burn, h1]
    rw [hp]
    obtain ⟨A, c, rfl, _⟩ := hv
    have hD := h.blk
    rw [h1] at hD
    refine (perform_no hD o).mono ?_
    rintro e w' ⟨rfl, hD', hF⟩
    have hFS : Fr S w w' := hF.mono fun i _ e => (h.set i).2 (.inl e)
    have hu : U8 w w' := hFS.u8 fun i hi => h.no8 hi
    have hne : ∀ i, pv.ownBlock = some i → i ≠ d := fun i hi e => by
      rcases own_ne_dev hD h.own with h1 | h1
      · rw [h1] at hi; cases hi
      · exact h1 (by rw [hi, e])
    refine ⟨rfl, S, ⟨rd, rn, pv, cells, hD', h.dur.move (hF.block _ h.dur.lt (map_ne_dev h.dur hD)) hu, h.now.move (hF.block _ h.now.lt (map_ne_dev h.now hD)) hu, ?_, h.ops.move hu, h.ne, h.base, h.set⟩, hFS, fun i hi => .inl hi⟩
    exact own_fr hF h.own hne
  · have hp : st.perform o = ({ st with fuse := (st.fuse - 1).toNat, now := app st.now o, pend := st.pend ++ [o] }, 0) := by
      by_cases h0 : st.fuse = 0
      · simp [DS.perform, DS.burn, h0]
      · have h2 : (1 : Int) < st.fuse := by omega
        have e : ((st.fuse - 1).toNat : Int) = st.fuse - 1 := by omega
        simp only [DS.perform, DS.burn, h0, if_false, show st.fuse - 1 > 0 by omega, if_true, e]
    rw [hp]
    dsimp only
    have hburn : ∀ W, DevB W d (.map (some rd)) (.map (some rn)) pv st.fuse st.down → Calls Try.prog 56 #[.pointer (some ⟨d, 0, none⟩)] W fun e W' => e = .returned (.int .i64 0) ∧ DevB W' d (.map (some rd)) (.map (some rn)) pv ((st.fuse - 1).toNat : Int) st.down ∧ Fr (· = d) W W' := fun W hW => by
      by_cases h0 : st.fuse = 0
      · rw [h0] at hW ⊢; exact burn_zero' hW
      · have e : ((st.fuse - 1).toNat : Int) = st.fuse - 1 := by omega
        rw [e]
        exact burn_more' hW (by omega) hf1
    refine (perform_ok h.blk hburn h.now h.base h.own h.ops o hk hv hl hn).mono ?_
    rintro e w' ⟨rfl, pv', cells', h1, h2, h3, h4, h5, h6⟩
    have hFS : Fr S w w' := h5.mono fun i _ e => (h.set i).2 (e.elim .inl fun e => .inr (e.elim (fun e => .inr (.inl e)) fun e => .inr (.inr e)))
    have hu : U8 w w' := hFS.u8 fun i hi => h.no8 hi
    refine ⟨rfl, fun i => i = d ∨ i = rd ∨ i = rn ∨ pv'.ownBlock = some i, ⟨rd, rn, pv', cells', h1, ?_, h2, h3, h4, h.ne, h.base, fun i => Iff.rfl⟩, hFS, ?_⟩
    · refine h.dur.move (h5.block _ h.dur.lt ?_) hu
      rintro (e | e | e)
      · exact map_ne_dev h.dur h.blk e
      · exact h.ne e
      · exact map_ne_own h.dur h.own e
    · rintro i (e | e | e | e)
      · exact .inl ((h.set i).2 (.inl e))
      · exact .inl ((h.set i).2 (.inr (.inl e)))
      · exact .inl ((h.set i).2 (.inr (.inr (.inl e))))
      · exact (h6 i e).imp (fun e => (h.set i).2 (.inr (.inr (.inr e)))) id
end Go.Proofs.Ytalnhdeckdakfaa.Dev
