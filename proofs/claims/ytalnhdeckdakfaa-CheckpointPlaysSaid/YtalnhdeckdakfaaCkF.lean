/-
  checkpoint: Save and Load on resources side by side; every byte stays a byte.
-/
import Derived.Test.YtalnhdeckdakfaaCkE
namespace Go.Proofs.Ytalnhdeckdakfaa.Dev
open Go.RowKit Go.Proofs Co
set_option linter.unusedVariables false
set_option linter.unusedSectionVars false
set_option linter.unusedSimpArgs false
variable [Bs]

/-- bytes of the files and of the pending operations -/
def BL (b : List Int) : Prop := ∀ x ∈ b, 0 ≤ x ∧ x < 256
structure BOk (d : DS) : Prop where
  dur : BR d.dur
  now : BR d.now
  ops : ∀ o ∈ d.pend, BL o.b
theorem BR.get {l : FS} (h : BR l) (k : ByteArray) : BL ((l.get k).getD []) := by
  cases hg : l.get k with
  | none => exact fun x hx => by cases hx
  | some b => exact h (k, b) (FS.get_mem hg)
theorem BR.put {l : FS} (h : BR l) (k : ByteArray) {v : List Int} (hv : BL v) : BR (l.put k v) := fun p hp => by
  rcases FS.mem_put hp with rfl | hp
  · exact hv
  · exact h p hp
theorem BR.del {l : FS} (h : BR l) (k : ByteArray) : BR (l.del k) := fun p hp => h p (FS.mem_del hp)
theorem BL.app {a b : List Int} (ha : BL a) (hb : BL b) : BL (a ++ b) := fun x hx => (List.mem_append.1 hx).elim (ha x) (hb x)
theorem BR.app {l : FS} (h : BR l) {o : Op} (ho : BL o.b) : BR (app l o) := by
  unfold Dev.app
  split
  · exact h.put _ ho
  · split
    · exact h.put _ ((h.get _).app ho)
    · split
      · exact (h.del _).put _ (h.get _)
      · exact h.del _
theorem BR.apps {os : List Op} : ∀ {l : FS}, BR l → (∀ o ∈ os, BL o.b) → BR (apps l os) := by
  induction os with
  | nil => exact fun h _ => h
  | cons o os ih => exact fun h ho => ih (h.app (ho o List.mem_cons_self)) fun q hq => ho q (List.mem_cons_of_mem _ hq)
theorem BOk.new : BOk DS.new := ⟨fun p hp => by (cases hp), fun p hp => (by cases hp), fun p hp => (by cases hp)⟩
section
variable {d : DS}
theorem BOk.burn (h : BOk d) : BOk d.burn.1 := by
  unfold DS.burn
  split
  · exact h
  · split
    · exact ⟨h.dur, h.now, h.ops⟩
    · exact ⟨h.dur, h.now, h.ops⟩
theorem BOk.perform (h : BOk d) {o : Op} (ho : BL o.b) : BOk (d.perform o).1 := by
  have hb := h.burn
  unfold DS.perform
  split
  · refine ⟨hb.dur, hb.now.app ho, fun q hq => ?_⟩
    rcases List.mem_append.1 hq with hq | hq
    · exact hb.ops q hq
    · rw [List.mem_singleton.1 hq]; exact ho
  · exact hb
theorem BOk.create (h : BOk d) (k : ByteArray) {b : List Int} (hb : BL b) : BOk (d.create k b).1 := by
  unfold DS.create
  split
  · split
    · exact h
    · exact h.perform hb
  · exact h
theorem BOk.settle (h : BOk d) {os : List Op} (ho : ∀ o ∈ os, BL o.b) : BOk (d.settle os) := ⟨h.dur.apps ho, h.dur.apps ho, fun o hq => (by cases hq)⟩
theorem BOk.sync (h : BOk d) : BOk d.sync.1 := by
  have hb := h.burn
  unfold DS.sync
  split
  · exact h
  · split
    · exact hb.settle h.ops
    · exact hb
theorem BOk.restart (h : BOk d) : BOk d.restart := by
  unfold DS.restart
  split
  · have := h.settle (os := []) (fun o ho => (by cases ho))
    exact ⟨this.dur, this.now, this.ops⟩
  · exact h
theorem BOk.setFuse (h : BOk d) (n : Int) : BOk (d.setFuse n) := ⟨h.dur, h.now, h.ops⟩
theorem BOk.lose (h : BOk d) (keep torn : Int) : BOk (d.lose keep torn) := by
  have h0 : BOk ({ d with down := true, fuse := 0 } : DS) := ⟨h.dur, h.now, h.ops⟩
  refine h0.settle fun o ho => ?_
  unfold DS.kept at ho
  rcases List.mem_append.1 ho with ho | ho
  · exact h.ops o (List.mem_of_mem_take ho)
  · cases hg : d.pend[d.keep keep]? with
    | none => rw [hg] at ho; cases ho
    | some x =>
      rw [hg] at ho
      simp only at ho
      split at ho
      · rw [List.mem_singleton.1 ho]
        exact fun y hy => h.ops x (List.mem_of_getElem? hg) y (List.mem_of_mem_take hy)
      · cases ho
theorem enc_bytes {c : CP} (h : BL c.st) : BL c.enc := by
  unfold CP.enc
  exact ((BL.app (BL.app (fun x hx => putU_byte _ _ (Nat.le_refl _) x hx) (fun x hx => putU_byte _ _ (Nat.le_refl _) x hx)) (fun x hx => putU_byte _ _ (Nat.le_refl _) x hx)).app h)
theorem BOk.save (h : BOk d) (k : ByteArray) (pos : Int) {b : List Int} (hb : BL b) : BOk (saveD d k pos b).1 := by
  unfold saveD
  split
  · exact h
  · split
    · exact h
    · split
      · exact h
      · split
        · exact h
        · have hc := h.create (cfile k ((newestD d k).1.turn + 1)) (b := CP.enc ⟨(newestD d k).1.turn + 1, pos.toNat, b⟩) (enc_bytes hb)
          dsimp only
          split
          · exact hc.sync
          · exact hc
theorem DS.Ok.save (h : d.Ok) (k : ByteArray) (pos : Int) (b : List Int) : (saveD d k pos b).1.Ok := by
  unfold saveD
  split
  · exact h
  · split
    · exact h
    · split
      · exact h
      · split
        · exact h
        · have hc := h.create (cfile k ((newestD d k).1.turn + 1)) (CP.enc ⟨(newestD d k).1.turn + 1, pos.toNat, b⟩)
          dsimp only
          split
          · exact hc.sync
          · exact hc
end
section
variable {w00 w : World} {d : Nat} {st st' : DS} {r : Int} {B : Own}
theorem save_L (hB : Stable B) (hq : Bs.n ≤ w00.heap.size) (h : LS w00 (star (DevO d st) B) w) {k : ByteArray} {pos : Int} {v : Value} {b : List Int} (he : saveD st k pos b = (st', r)) (ok : st.Ok) (hn : st.pend.length ≤ 90000) (hbr : BOk st) (hk : k.size ≤ 9223372036854775807) (hpos : pos < 4611686018427387904) (hv : Rd w v b) (hl : b.length ≤ 100000000) :
    Calls Try.prog 16 #[.pointer (some ⟨d, 0, none⟩), .string k, .int .i64 pos, v] w fun e w' => e = .returned (.int .i64 r) ∧ LS w00 (star (DevO d st') B) w' ∧ U8 w w' := by
  refine (LS.calls (α := Unit) (Q := fun _ e _ => e = .returned (.int .i64 r)) (A' := fun _ => DevO d st') (stable_dev d st) hB h fun S h1 hl0 => ?_).mono ?_
  · refine (save_dev h1 ok hn hbr.now k hk pos hpos hv hl (Nat.le_trans hq h.size)).mono ?_
    rintro e w' ⟨rfl, hR⟩
    rw [he] at hR ⊢
    exact ⟨(), rfl, hR⟩
  · rintro e w' ⟨_, h1, h2⟩
    exact ⟨h1, h2⟩
theorem cpLoad_L (hB : Stable B) (hq : Bs.n ≤ w00.heap.size) (h : LS w00 (star (DevO d st) B) w) {k : ByteArray} (ok : st.Ok) (hbr : BOk st) (hk : k.size ≤ 9223372036854775807) :
    Calls Try.prog 23 #[.pointer (some ⟨d, 0, none⟩), .string k] w fun e w' => ∃ v, e = .returned (.tuple #[.int .i64 (loadD st k).1, v, .bool (loadD st k).2.2.1, .int .i64 (loadD st k).2.2.2]) ∧ Rd w' v (loadD st k).2.1 ∧ LS w00 (star (DevO d st) B) w' ∧ U8 w w' := by
  obtain ⟨S, h1⟩ := h.dev
  refine (load_dev h1 ok hbr.now k hk (Nat.le_trans hq h.size)).mono ?_
  rintro e w' ⟨v, rfl, hv, hb⟩
  exact ⟨v, rfl, hv, h.below ((stable_dev d st).star hB) hb⟩
end
end Go.Proofs.Ytalnhdeckdakfaa.Dev
