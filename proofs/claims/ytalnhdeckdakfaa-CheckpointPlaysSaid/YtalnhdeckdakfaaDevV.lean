/-
  Plain: the names of a device's files and operations are valid.
-/
import Derived.Test.YtalnhdeckdakfaaDevOk
namespace Go.Proofs.Ytalnhdeckdakfaa.Dev
set_option linter.unusedVariables false
set_option linter.unusedSimpArgs false
set_option linter.unusedSectionVars false
variable [Bs]

def V (l : FS) : Prop := ∀ p ∈ l, valid p.1 = true
def VO (o : Op) : Prop := valid o.name = true ∧ (o.kind = 3 → valid o.to = true)
theorem V.put {l : FS} (h : V l) {k : ByteArray} (hk : valid k = true) (v : List Int) : V (l.put k v) := fun p hp => by
  rcases FS.mem_put hp with rfl | hp
  · exact hk
  · exact h p hp
theorem V.del {l : FS} (h : V l) (k : ByteArray) : V (l.del k) := fun p hp => h p (FS.mem_del hp)
theorem V.app {l : FS} (h : V l) {o : Op} (ho : VO o) : V (app l o) := by
  unfold Dev.app
  split
  · exact h.put ho.1 _
  · split
    · exact h.put ho.1 _
    · split
      · rename_i h3; exact (h.del _).put (ho.2 h3) _
      · exact h.del _
theorem V.apps {os : List Op} : ∀ {l : FS}, V l → (∀ o ∈ os, VO o) → V (apps l os) := by
  induction os with
  | nil => exact fun h _ => h
  | cons o os ih => exact fun h ho => ih (h.app (ho o List.mem_cons_self)) fun q hq => ho q (List.mem_cons_of_mem _ hq)
structure KOk (d : DS) : Prop where
  dur : V d.dur
  now : V d.now
  ops : ∀ o ∈ d.pend, VO o
theorem KOk.new : KOk DS.new := ⟨fun p hp => by (cases hp), fun p hp => (by cases hp), fun p hp => (by cases hp)⟩
section
variable {d : DS}
theorem KOk.burn (h : KOk d) : KOk d.burn.1 := by
  unfold DS.burn
  split
  · exact h
  · split
    · exact ⟨h.dur, h.now, h.ops⟩
    · exact ⟨h.dur, h.now, h.ops⟩
theorem KOk.perform (h : KOk d) {o : Op} (ho : VO o) : KOk (d.perform o).1 := by
  have hb := h.burn
  unfold DS.perform
  split
  · refine ⟨hb.dur, hb.now.app ho, fun q hq => ?_⟩
    rcases List.mem_append.1 hq with hq | hq
    · exact hb.ops q hq
    · rw [List.mem_singleton.1 hq]; exact ho
  · exact hb
theorem chk_valid {down need : Bool} {fs : FS} {ks : List ByteArray} (h : chk down need fs ks = 0) : ∀ k ∈ ks, valid k = true := by
  unfold chk at h
  split at h
  · cases h
  · split at h
    · cases h
    · rename_i _ h2
      have : ks.all valid = true := by cases hc : ks.all valid <;> simp_all
      exact List.all_eq_true.1 this
theorem KOk.create (h : KOk d) (k : ByteArray) (b : List Int) : KOk (d.create k b).1 := by
  unfold DS.create
  split
  · rename_i hc
    split
    · exact h
    · exact h.perform ⟨chk_valid hc k (by simp), fun h => by cases h⟩
  · exact h
theorem KOk.append (h : KOk d) (k : ByteArray) (b : List Int) : KOk (d.append k b).1 := by
  unfold DS.append
  split
  · rename_i hc
    split
    · exact h
    · exact h.perform ⟨chk_valid hc k (by simp), fun h => by cases h⟩
  · exact h
theorem KOk.delete (h : KOk d) (k : ByteArray) : KOk (d.delete k).1 := by
  unfold DS.delete
  split
  · rename_i hc
    exact h.perform ⟨chk_valid hc k (by simp), fun h => by cases h⟩
  · exact h
theorem KOk.rename (h : KOk d) (k l : ByteArray) : KOk (d.rename k l).1 := by
  unfold DS.rename
  split
  · rename_i hc
    exact h.perform ⟨chk_valid hc k (by simp), fun _ => chk_valid hc l (by simp)⟩
  · exact h
theorem KOk.doOp (h : KOk d) (o : Op) : KOk (d.doOp o).1 := by
  unfold DS.doOp
  split
  · exact h.create _ _
  · split
    · exact h.append _ _
    · split
      · exact h.rename _ _
      · exact h.delete _
theorem KOk.settle (h : KOk d) {os : List Op} (ho : ∀ o ∈ os, VO o) : KOk (d.settle os) := ⟨h.dur.apps ho, h.dur.apps ho, fun o hq => (by cases hq)⟩
theorem KOk.sync (h : KOk d) : KOk d.sync.1 := by
  have hb := h.burn
  unfold DS.sync
  split
  · exact h
  · split
    · exact hb.settle h.ops
    · exact hb
theorem KOk.restart (h : KOk d) : KOk d.restart := by
  unfold DS.restart
  split
  · have := h.settle (os := []) (fun o ho => (by cases ho))
    exact ⟨this.dur, this.now, this.ops⟩
  · exact h
theorem KOk.lose (h : KOk d) (keep torn : Int) : KOk (d.lose keep torn) := by
  have h0 : KOk ({ d with down := true, fuse := 0 } : DS) := ⟨h.dur, h.now, h.ops⟩
  refine h0.settle fun o ho => ?_
  unfold DS.kept at ho
  rcases List.mem_append.1 ho with ho | ho
  · exact h.ops o (List.mem_of_mem_take ho)
  · cases hg : d.pend[d.keep keep]? with
    | none => rw [hg] at ho; cases ho
    | some x =>
      rw [hg] at ho
      simp only at ho
      split at ho
      · rw [List.mem_singleton.1 ho]
        exact h.ops x (List.mem_of_getElem? hg)
      · cases ho
theorem valid_size {k : ByteArray} (h : valid k = true) : k.size ≤ 9223372036854775807 := by
  unfold valid at h
  simp only [Bool.and_eq_true, decide_eq_true_eq] at h
  omega
end
end Go.Proofs.Ytalnhdeckdakfaa.Dev
