/-
  Plain: what every reachable state of a device keeps: bounds, and that 'now' is 'durable' with the pending operations done.
-/
import Derived.Test.YtalnhdeckdakfaaDevL
namespace Go.Proofs.Ytalnhdeckdakfaa.Dev
set_option linter.unusedVariables false
set_option linter.unusedSimpArgs false
set_option linter.unusedSectionVars false
variable [Bs]

theorem FS.mem_put {k : ByteArray} {v : List Int} {p : ByteArray × List Int} : ∀ {l : FS}, p ∈ l.put k v → p = (k, v) ∨ p ∈ l
  | [], h => by simpa [FS.put] using h
  | e :: l, h => by
    unfold FS.put at h
    split at h
    · rcases List.mem_cons.1 h with h | h
      · exact .inl h
      · exact .inr (List.mem_cons_of_mem _ h)
    · rcases List.mem_cons.1 h with h | h
      · exact .inr (h ▸ List.mem_cons_self)
      · exact (FS.mem_put h).imp id (List.mem_cons_of_mem _)
theorem FS.put_mem (k : ByteArray) (v : List Int) : ∀ l : FS, (k, v) ∈ l.put k v
  | [] => by simp [FS.put]
  | e :: l => by
    unfold FS.put
    split
    · exact List.mem_cons_self
    · exact List.mem_cons_of_mem _ (FS.put_mem k v l)
theorem FS.put_len (k : ByteArray) (v : List Int) : ∀ l : FS, (l.put k v).length = if (l.get k).isSome then l.length else l.length + 1
  | [] => by simp [FS.put, FS.get]
  | e :: l => by
    unfold FS.put FS.get
    split
    · simp
    · have := FS.put_len k v l
      simp only [List.length_cons, this]
      split <;> rfl
theorem FS.mem_del {k : ByteArray} {p : ByteArray × List Int} : ∀ {l : FS}, p ∈ l.del k → p ∈ l
  | [], h => by simp [FS.del] at h
  | e :: l, h => by
    unfold FS.del at h
    split at h
    · exact List.mem_cons_of_mem _ h
    · rcases List.mem_cons.1 h with h | h
      · exact h ▸ List.mem_cons_self
      · exact List.mem_cons_of_mem _ (FS.mem_del h)
theorem FS.del_len (k : ByteArray) : ∀ l : FS, (l.del k).length = if (l.get k).isSome then l.length - 1 else l.length
  | [] => by simp [FS.del, FS.get]
  | e :: l => by
    unfold FS.del FS.get
    split
    · simp
    · have := FS.del_len k l
      simp only [List.length_cons, this]
      split
      · next h =>
        have : 0 < l.length := by
          cases l with
          | nil => simp [FS.get] at h
          | cons _ _ => simp
        omega
      · rfl
theorem FS.get_mem {k : ByteArray} {v : List Int} : ∀ {l : FS}, l.get k = some v → (k, v) ∈ l
  | [], h => by simp [FS.get] at h
  | e :: l, h => by
    unfold FS.get at h
    split at h
    · next hk => injection h with h; subst h; subst hk; exact List.mem_cons_self
    · exact List.mem_cons_of_mem _ (FS.get_mem h)
theorem FS.get_put_same (k : ByteArray) (v : List Int) : ∀ l : FS, (l.put k v).get k = some v
  | [] => by simp [FS.put, FS.get]
  | e :: l => by
    unfold FS.put
    split
    · simp [FS.get]
    · next h => rw [FS.get, if_neg h]; exact FS.get_put_same k v l
theorem FS.get_put_ne {k n : ByteArray} (h : n ≠ k) (v : List Int) : ∀ l : FS, (l.put k v).get n = l.get n
  | [] => by simp [FS.put, FS.get, Ne.symm h]
  | e :: l => by
    unfold FS.put
    split
    · next hk => rw [FS.get, FS.get, if_neg (by simpa using Ne.symm h), if_neg (by rw [hk]; exact Ne.symm h)]
    · rw [FS.get, FS.get]; split
      · rfl
      · exact FS.get_put_ne h v l
theorem FS.get_del_ne {k n : ByteArray} (h : n ≠ k) : ∀ l : FS, (l.del k).get n = l.get n
  | [] => by simp [FS.del]
  | e :: l => by
    unfold FS.del
    split
    · next hk => rw [FS.get, if_neg (by rw [hk]; exact Ne.symm h)]
    · rw [FS.get, FS.get]; split
      · rfl
      · exact FS.get_del_ne h l

/-- files that a device may hold -/
structure Bnd (l : FS) : Prop where
  b : ∀ p ∈ l, p.2.length ≤ 4194304
  n : l.length ≤ 256
theorem Bnd.get {l : FS} (h : Bnd l) (k : ByteArray) : ((l.get k).getD []).length ≤ 4194304 := by
  cases hg : l.get k with
  | none => simp
  | some v => exact h.b _ (FS.get_mem hg)
theorem Bnd.put {l : FS} (h : Bnd l) {k : ByteArray} {v : List Int} (hv : v.length ≤ 4194304) (hn : (l.get k).isSome = true ∨ l.length < 256) : Bnd (l.put k v) := by
  refine ⟨fun p hp => ?_, ?_⟩
  · rcases FS.mem_put hp with rfl | hp
    · exact hv
    · exact h.b p hp
  · rw [FS.put_len]
    have := h.n
    rcases hn with hn | hn
    · rw [if_pos hn]; exact this
    · split <;> omega
theorem Bnd.del {l : FS} (h : Bnd l) (k : ByteArray) : Bnd (l.del k) := by
  refine ⟨fun p hp => h.b p (FS.mem_del hp), ?_⟩
  rw [FS.del_len]
  have := h.n
  split <;> omega
theorem Bnd.app_cut {l : FS} {o : Op} (h : Bnd l) (hw : o.writes = true) (ha : Bnd (app l o)) (torn : Int) : Bnd (app l (o.cut torn)) := by
  have hk : o.kind = 1 ∨ o.kind = 2 := by simpa [Op.writes] using hw
  have key : ∀ v v' : List Int, v'.length ≤ v.length → Bnd (l.put o.name v) → Bnd (l.put o.name v') := fun v v' hl hb => by
    refine ⟨fun p hp => ?_, ?_⟩
    · rcases FS.mem_put hp with rfl | hp
      · have := hb.b _ (FS.put_mem o.name v l); simp only at this ⊢; omega
      · exact h.b p hp
    · have := hb.n
      rw [FS.put_len] at this ⊢
      exact this
  rcases hk with hk | hk
  · unfold app at ha ⊢
    simp only [Op.cut, hk, if_true] at ha ⊢
    exact key o.b _ (by rw [List.length_take]; exact Nat.min_le_right _ _) ha
  · unfold app at ha ⊢
    simp only [Op.cut, hk, if_true, show ¬ (2 : Nat) = 1 by decide, if_false] at ha ⊢
    exact key _ _ (by rw [List.length_append, List.length_append, List.length_take]; exact Nat.add_le_add_left (Nat.min_le_right _ _) _) ha

structure DS.Ok (d : DS) : Prop where
  lo : 0 ≤ d.fuse
  hi : d.fuse ≤ 1000000
  now : d.now = apps d.dur d.pend
  bnd : ∀ k, k ≤ d.pend.length → Bnd (apps d.dur (d.pend.take k))
  ops : ∀ o ∈ d.pend, o.ok ∧ o.b.length ≤ 4194304
section
variable {d : DS}
theorem DS.Ok.bnow (h : d.Ok) : Bnd d.now := by
  have := h.bnd d.pend.length (Nat.le_refl _)
  rwa [List.take_length, ← h.now] at this
theorem DS.Ok.bdur (h : d.Ok) : Bnd d.dur := by
  have := h.bnd 0 (Nat.zero_le _)
  simpa [apps] using this
theorem DS.ok_new : DS.new.Ok where
  lo := by decide
  hi := by decide
  now := rfl
  bnd := fun k hk => by
    have : k = 0 := by simpa [DS.new] using hk
    subst this
    exact ⟨fun p hp => by simp [DS.new, apps] at hp, by simp [DS.new, apps]⟩
  ops := fun o ho => by simp [DS.new] at ho
/-- only fuse and power have turned -/
theorem DS.Ok.with (h : d.Ok) {f : Int} (h0 : 0 ≤ f) (h1 : f ≤ 1000000) (b : Bool) : ({ d with fuse := f, down := b } : DS).Ok := ⟨h0, h1, h.now, h.bnd, h.ops⟩
theorem DS.burn_eq (d : DS) : ∃ f b, d.burn.1 = { d with fuse := f, down := b } ∧ (d.Ok → 0 ≤ f ∧ f ≤ 1000000) := by
  unfold DS.burn
  split
  · next h => exact ⟨d.fuse, d.down, rfl, fun h => ⟨h.lo, h.hi⟩⟩
  · next h0 =>
    split
    · next h => exact ⟨d.fuse - 1, d.down, rfl, fun h' => by have := h'.hi; omega⟩
    · next h => exact ⟨d.fuse - 1, true, rfl, fun h' => by have := h'.lo; have := h'.hi; omega⟩
theorem DS.Ok.burn (h : d.Ok) : d.burn.1.Ok := by
  obtain ⟨f, b, e, hf⟩ := DS.burn_eq d
  rw [e]
  exact h.with (hf h).1 (hf h).2 b
theorem apps_snoc (l : FS) (os : List Op) (o : Op) : apps l (os ++ [o]) = app (apps l os) o := by simp [apps]
theorem DS.Ok.perform (h : d.Ok) {o : Op} (hk : o.ok) (hb : o.b.length ≤ 4194304) (ha : Bnd (app d.now o)) : (d.perform o).1.Ok := by
  unfold DS.perform
  obtain ⟨f, b, e, hf⟩ := DS.burn_eq d
  split
  · rw [e]
    refine ⟨(hf h).1, (hf h).2, ?_, fun k hk' => ?_, fun x hx => ?_⟩
    · show app d.now o = apps d.dur (d.pend ++ [o])
      rw [apps_snoc, ← h.now]
    · show Bnd (apps d.dur ((d.pend ++ [o]).take k))
      have hk2 : k ≤ d.pend.length + 1 := by simpa using hk'
      by_cases hle : k ≤ d.pend.length
      · rw [List.take_append_of_le_length hle]; exact h.bnd k hle
      · have : k = d.pend.length + 1 := by omega
        subst this
        rw [List.take_of_length_le (by simp), apps_snoc, ← h.now]
        exact ha
    · rcases List.mem_append.1 hx with hx | hx
      · exact h.ops x hx
      · rw [List.mem_singleton.1 hx]; exact ⟨hk, hb⟩
  · exact h.burn
theorem DS.perform_len (d : DS) (o : Op) : (d.perform o).1.pend.length ≤ d.pend.length + 1 := by
  unfold DS.perform
  obtain ⟨f, b, e, _⟩ := DS.burn_eq d
  split <;> rw [e] <;> simp
theorem chk_some {down : Bool} {fs : FS} {k : ByteArray} {l : List ByteArray} (h : chk down true fs (k :: l) = 0) : (fs.get k).isSome = true := by
  unfold chk at h
  split at h
  · cases h
  · split at h
    · cases h
    · split at h
      · cases h
      · next h3 => simp only [Bool.true_and, List.headD_cons] at h3; cases hg : fs.get k with
        | none => rw [hg] at h3; exact absurd rfl h3
        | some v => rfl
theorem DS.Ok.create (h : d.Ok) (k : ByteArray) (b : List Int) : (d.create k b).1.Ok := by
  unfold DS.create
  split
  · split
    · exact h
    · next hc =>
      refine h.perform (.inl rfl) (by simp only; omega) ?_
      show Bnd (d.now.put k b)
      refine h.bnow.put (by omega) ?_
      cases hs : (d.now.get k).isSome with
      | true => exact .inl rfl
      | false => exact .inr (Nat.lt_of_not_le fun hh => hc (.inr ⟨hs, hh⟩))
  · exact h
theorem DS.Ok.append (h : d.Ok) (k : ByteArray) (b : List Int) : (d.append k b).1.Ok := by
  unfold DS.append
  split
  · next hc =>
    split
    · exact h
    · next hl =>
      refine h.perform (.inr (.inl rfl)) (by simp only; omega) ?_
      show Bnd (d.now.put k (((d.now.get k).getD []) ++ b))
      exact h.bnow.put (by rw [List.length_append]; omega) (.inl (chk_some hc))
  · exact h
theorem DS.Ok.rename (h : d.Ok) (k l : ByteArray) : (d.rename k l).1.Ok := by
  unfold DS.rename
  split
  · next hc =>
    refine h.perform (.inr (.inr (.inl rfl))) (by simp) ?_
    show Bnd ((d.now.del k).put l ((d.now.get k).getD []))
    refine (h.bnow.del k).put (h.bnow.get k) (.inr ?_)
    have hs := chk_some hc
    have hn := h.bnow.n
    rw [FS.del_len, if_pos hs]
    have : 0 < d.now.length := by
      cases hd : d.now with
      | nil => rw [hd] at hs; simp [FS.get] at hs
      | cons _ _ => simp
    omega
  · exact h
theorem DS.Ok.fits_of (h : d.Ok) {os : List Op} (ho : ∀ o ∈ os, o.ok ∧ o.b.length ≤ 4194304) (hb : ∀ k, k < os.length → Bnd (apps d.dur (os.take k))) : Fits d.dur os := fun k hk => by
  have h1 := ho os[k] (List.getElem_mem hk)
  have h2 := (hb k hk).get os[k].name
  exact ⟨h1.1, by omega⟩
theorem DS.Ok.fits (h : d.Ok) : Fits d.dur d.pend := h.fits_of h.ops fun k hk => h.bnd k (Nat.le_of_lt hk)
theorem DS.Ok.settle0 {l : FS} (hb : Bnd l) {f : Int} (h0 : 0 ≤ f) (h1 : f ≤ 1000000) (b : Bool) : (⟨l, l, [], f, b⟩ : DS).Ok :=
  ⟨h0, h1, rfl, fun k hk => by
    have : k = 0 := by simpa using hk
    subst this; exact hb, fun o ho => by cases ho⟩
theorem DS.Ok.sync (h : d.Ok) : d.sync.1.Ok := by
  unfold DS.sync
  split
  · exact h
  · split
    · obtain ⟨f, b, e, hf⟩ := DS.burn_eq d
      rw [e]
      have : Bnd (apps d.dur d.pend) := by rw [← h.now]; exact h.bnow
      exact DS.Ok.settle0 this (hf h).1 (hf h).2 b
    · exact h.burn
theorem DS.Ok.restart (h : d.Ok) : d.restart.Ok := by
  unfold DS.restart
  split
  · exact DS.Ok.settle0 (l := apps d.dur []) h.bdur h.lo h.hi false
  · exact h
theorem DS.Ok.setFuse (h : d.Ok) {n : Int} (hn : n ≤ 1000000) : (d.setFuse n).Ok := h.with (by omega) (by omega) d.down
theorem DS.Ok.kept (h : d.Ok) (keep torn : Int) : (∀ o ∈ d.kept keep torn, o.ok ∧ o.b.length ≤ 4194304) ∧ ∀ k, k ≤ (d.kept keep torn).length → Bnd (apps d.dur ((d.kept keep torn).take k)) := by
  have hk : d.keep keep ≤ d.pend.length := by unfold DS.keep; omega
  have h1 : ∀ o ∈ d.pend.take (d.keep keep), o.ok ∧ o.b.length ≤ 4194304 := fun o ho => h.ops o (List.mem_of_mem_take ho)
  have h2 : ∀ k, Bnd (apps d.dur ((d.pend.take (d.keep keep)).take k)) := fun k => by
    rw [List.take_take]
    exact h.bnd _ (by omega)
  have plain : ∀ l : List Op, l = [] → (∀ o ∈ d.pend.take (d.keep keep) ++ l, o.ok ∧ o.b.length ≤ 4194304) ∧ ∀ k, k ≤ (d.pend.take (d.keep keep) ++ l).length → Bnd (apps d.dur ((d.pend.take (d.keep keep) ++ l).take k)) := fun l e => by
    subst e
    simp only [List.append_nil]
    exact ⟨h1, fun k _ => h2 k⟩
  unfold DS.kept
  cases hg : d.pend[d.keep keep]? with
  | none => exact plain _ rfl
  | some o =>
    simp only
    split
    · next hc =>
      obtain ⟨hlt, he⟩ := List.getElem?_eq_some_iff.1 hg
      have ho := h.ops o (List.mem_of_getElem? hg)
      refine ⟨fun x hx => ?_, fun k hk' => ?_⟩
      · rcases List.mem_append.1 hx with hx | hx
        · exact h1 x hx
        · rw [List.mem_singleton.1 hx]
          refine ⟨ho.1, ?_⟩
          have : (o.cut torn).b.length ≤ o.b.length := by show (o.b.take _).length ≤ _; rw [List.length_take]; exact Nat.min_le_right _ _
          omega
      · by_cases hle : k ≤ (d.pend.take (d.keep keep)).length
        · rw [List.take_append_of_le_length hle]; exact h2 k
        · have : k = (d.pend.take (d.keep keep)).length + 1 := by simp at hk'; simp at hle ⊢; omega
          subst this
          rw [List.take_of_length_le (by simp), apps_snoc]
          refine Bnd.app_cut ?_ hc.2.1 ?_ torn
          · have := h.bnd _ hk; exact this
          · have := h.bnd (d.keep keep + 1) (by omega)
            rw [apps_take _ _ _ hlt, he] at this
            exact this
    · exact plain _ rfl
theorem DS.Ok.fits_kept (h : d.Ok) (keep torn : Int) : Fits d.dur (d.kept keep torn) := h.fits_of (h.kept keep torn).1 fun k hk => (h.kept keep torn).2 k (Nat.le_of_lt hk)
theorem DS.Ok.lose (h : d.Ok) (keep torn : Int) : (d.lose keep torn).Ok := by
  have := (h.kept keep torn).2 _ (Nat.le_refl _)
  rw [List.take_length] at this
  exact DS.Ok.settle0 this (Int.le_refl 0) (by decide) true
theorem DS.Ok.fuel (h : d.Ok) (hn : d.pend.length ≤ 100000) : Fuel d := ⟨h.lo, h.hi, hn⟩
end
end Go.Proofs.Ytalnhdeckdakfaa.Dev
