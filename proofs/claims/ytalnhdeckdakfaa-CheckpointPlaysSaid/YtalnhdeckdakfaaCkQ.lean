/-
  Plain: what a Save leaves, at whichever operation the power fails and whatever is kept.
-/
import Derived.Test.YtalnhdeckdakfaaCkF
import Derived.Test.YtalnhdeckdakfaaCkPre
import Derived.Test.YtalnhdeckdakfaaCkPl
namespace Go.Proofs.Ytalnhdeckdakfaa.Dev
open Co
set_option linter.unusedVariables false
set_option linter.unusedSectionVars false
set_option linter.unusedSimpArgs false
variable [Bs]

theorem dec_nil : CP.dec [] = CP.zero := rfl
/-- the checkpoint of one of the two files -/
def fd (l : FS) (k : ByteArray) (i : Nat) : CP := CP.dec ((l.get (cfile k i)).getD [])
def pk (s x : CP) : CP := if s.turn < x.turn then x else s
def nw (l : FS) (k : ByteArray) : CP := pk (pk CP.zero (fd l k 0)) (fd l k 1)
/-- the newest checkpoint of a name is c, and each file has turns of its own kind -/
structure At (k : ByteArray) (c : CP) (l : FS) : Prop where
  i0 : (fd l k 0).turn % 2 = 0
  i1 : (fd l k 1).turn = 0 ∨ (fd l k 1).turn % 2 = 1
  nw : nw l k = c
theorem At.zero {k : ByteArray} {c : CP} {l : FS} (h : At k c l) (h0 : c.turn = 0) : c = CP.zero := by
  have := h.nw
  unfold Dev.nw pk at this
  split at this <;> split at this <;> subst this <;> simp_all [CP.zero]
theorem At.none {k : ByteArray} {l : FS} (h0 : l.get (cfile k 0) = none) (h1 : l.get (cfile k 1) = none) : At k CP.zero l := by
  have a : fd l k 0 = CP.zero := by unfold fd; rw [h0]; rfl
  have b : fd l k 1 = CP.zero := by unfold fd; rw [h1]; rfl
  exact ⟨by rw [a]; rfl, .inl (by rw [b]; rfl), by unfold Dev.nw; rw [a, b]; rfl⟩
theorem At.same {k : ByteArray} {c : CP} {l l' : FS} (h : At k c l) (h0 : l'.get (cfile k 0) = l.get (cfile k 0)) (h1 : l'.get (cfile k 1) = l.get (cfile k 1)) : At k c l' := by
  have a : fd l' k 0 = fd l k 0 := by unfold fd; rw [h0]
  have b : fd l' k 1 = fd l k 1 := by unfold fd; rw [h1]
  exact ⟨by rw [a]; exact h.i0, by rw [b]; exact h.i1, by unfold Dev.nw; rw [a, b]; exact h.nw⟩
theorem fd_put_same (l : FS) (k : ByteArray) {i j : Nat} (h : j % 2 = i % 2) (b : List Int) : fd (l.put (cfile k j) b) k i = CP.dec b := by
  unfold fd
  rw [cfile_mod k j, h, ← cfile_mod k i, FS.get_put_same]
  rfl
theorem fd_put_ne (l : FS) (k : ByteArray) {i j : Nat} (h : j % 2 ≠ i % 2) (b : List Int) : fd (l.put (cfile k j) b) k i = fd l k i := by
  unfold fd
  rw [FS.get_put_ne (cfile_ne k (Ne.symm h))]
theorem pk_cases {a b c : CP} : pk (pk CP.zero a) b = c ↔ ((0 < a.turn ∧ a.turn < b.turn ∧ b = c) ∨ (0 < a.turn ∧ ¬ a.turn < b.turn ∧ a = c) ∨ (¬ 0 < a.turn ∧ 0 < b.turn ∧ b = c) ∨ (¬ 0 < a.turn ∧ ¬ 0 < b.turn ∧ CP.zero = c)) := by
  have hz : CP.zero.turn = 0 := rfl
  unfold pk
  rw [hz]
  by_cases p : 0 < a.turn
  · rw [if_pos p]
    by_cases q : a.turn < b.turn
    · rw [if_pos q]; simp [p, q]
    · rw [if_neg q]; simp [p, q]
  · rw [if_neg p, hz]
    by_cases q : 0 < b.turn
    · rw [if_pos q]; simp [p, q]
    · rw [if_neg q]; simp [p, q]
/-- a file written: torn it decodes as none, whole as the next turn -/
theorem At.put {k : ByteArray} {c x : CP} {l : FS} (h : At k c l) {b : List Int} (hb : CP.dec b = x) (hx : x = CP.zero ∨ x.turn = c.turn + 1) :
    At k (if x.turn = c.turn + 1 then x else c) (l.put (cfile k (c.turn + 1)) b) := by
  obtain ⟨h0, h1, h2⟩ := h
  have hz : CP.zero.turn = 0 := rfl
  rcases Nat.mod_two_eq_zero_or_one c.turn with e | e
  · have f0 := fd_put_ne l k (i := 0) (j := c.turn + 1) (by omega) b
    have f1 := fd_put_same l k (i := 1) (j := c.turn + 1) (by omega) b
    rw [hb] at f1
    have h3 := pk_cases.1 h2
    generalize fd l k 0 = a0 at *
    generalize fd l k 1 = a1 at *
    refine ⟨by rw [f0]; exact h0, ?_, ?_⟩
    · rw [f1]
      rcases hx with rfl | hx
      · exact .inl rfl
      · exact .inr (by omega)
    · unfold Dev.nw
      rw [f0, f1]
      refine pk_cases.2 ?_
      rcases hx with rfl | hx
      · rw [if_neg (by omega)]
        rcases h3 with ⟨p, q, rfl⟩ | ⟨p, q, rfl⟩ | ⟨p, q, rfl⟩ | ⟨p, q, rfl⟩
        · exfalso; omega
        · exact .inr (.inl ⟨p, by omega, rfl⟩)
        · exfalso; omega
        · exact .inr (.inr (.inr ⟨p, by omega, rfl⟩))
      · rw [if_pos hx]
        rcases h3 with ⟨p, q, rfl⟩ | ⟨p, q, rfl⟩ | ⟨p, q, rfl⟩ | ⟨p, q, rfl⟩
        · exfalso; omega
        · exact .inl ⟨p, by omega, rfl⟩
        · exfalso; omega
        · exact .inr (.inr (.inl ⟨p, by omega, rfl⟩))
  · have f0 := fd_put_same l k (i := 0) (j := c.turn + 1) (by omega) b
    have f1 := fd_put_ne l k (i := 1) (j := c.turn + 1) (by omega) b
    rw [hb] at f0
    have h3 := pk_cases.1 h2
    generalize fd l k 0 = a0 at *
    generalize fd l k 1 = a1 at *
    refine ⟨?_, by rw [f1]; exact h1, ?_⟩
    · rw [f0]
      rcases hx with rfl | hx
      · rfl
      · omega
    · unfold Dev.nw
      rw [f0, f1]
      refine pk_cases.2 ?_
      rcases hx with rfl | hx
      · rw [if_neg (by omega)]
        rcases h3 with ⟨p, q, rfl⟩ | ⟨p, q, rfl⟩ | ⟨p, q, rfl⟩ | ⟨p, q, rfl⟩
        · exact .inr (.inr (.inl ⟨by omega, by omega, rfl⟩))
        · exfalso; omega
        · exact .inr (.inr (.inl ⟨by omega, by omega, rfl⟩))
        · exfalso; omega
      · rw [if_pos hx]
        rcases h3 with ⟨p, q, rfl⟩ | ⟨p, q, rfl⟩ | ⟨p, q, rfl⟩ | ⟨p, q, rfl⟩
        · exact .inr (.inl ⟨by omega, by omega, rfl⟩)
        · exfalso; omega
        · exact .inr (.inl ⟨by omega, by omega, rfl⟩)
        · exfalso; omega
/-- a device that stands still: nothing pending, the power on -/
structure Clean (m : Nat) (d : DS) : Prop where
  ok : d.Ok
  b : BOk d
  down : d.down = false
  pend : d.pend = []
  len : d.dur.length ≤ m
theorem Clean.now {m : Nat} {d : DS} (h : Clean m d) : d.now = d.dur := by rw [h.ok.now, h.pend]; rfl
theorem Clean.new : Clean 0 DS.new := ⟨DS.ok_new, BOk.new, rfl, rfl, Nat.le_refl _⟩
theorem At.new (k : ByteArray) : At k CP.zero DS.new.dur := At.none rfl rfl
theorem Clean.mono {m n : Nat} {d : DS} (h : Clean m d) (hn : m ≤ n) : Clean n d := ⟨h.ok, h.b, h.down, h.pend, Nat.le_trans h.len hn⟩
theorem Clean.fuse {m : Nat} {d : DS} (h : Clean m d) {n : Int} (hn : n ≤ 1000000) : Clean m (d.setFuse n) := ⟨h.ok.setFuse hn, h.b.setFuse n, h.down, h.pend, h.len⟩
theorem read_clean {m : Nat} {d : DS} (h : Clean m d) {k : ByteArray} (hk : valid k = true) : d.read k = match d.dur.get k with | some b => (b, 0) | none => ([], 301) := by
  unfold DS.read chk
  rw [h.now, h.down]
  simp only [List.all_cons, List.all_nil, hk, List.headD_cons, Bool.true_and, Bool.and_true]
  cases d.dur.get k <;> simp
theorem newest_clean {m : Nat} {d : DS} (h : Clean m d) {k : ByteArray} (hk : vname k = true) {c : CP} (hc : At k c d.dur) : newestD d k = (c, 0) := by
  have r := fun t => read_clean h (cfile_valid hk t)
  have ho : ∀ t, okR (d.read (cfile k t)) := fun t => by
    rw [r t]
    cases d.dur.get (cfile k t) with
    | none => exact .inr rfl
    | some b => exact .inl rfl
  have hp : ∀ s t, pick s (d.read (cfile k t)) = pk s (fd d.dur k t) := fun s t => by
    rw [r t]
    unfold pick pk fd
    cases d.dur.get (cfile k t) with
    | none => simp [dec_nil, CP.zero]
    | some b => simp
  rw [newest_two (fun i _ => ho i)]
  show (pick (pick CP.zero _) _, _) = _
  rw [hp, hp]
  exact Prod.ext hc.nw rfl
theorem load_clean {m : Nat} {d : DS} (h : Clean m d) {k : ByteArray} (hk : vname k = true) {c : CP} (hc : At k c d.dur) :
    loadD d k = if c.turn = 0 then (0, [], false, 0) else (c.pos, c.st, true, 0) := by
  unfold loadD
  rw [newest_clean h hk hc, if_neg (by rw [hk]; simp)]
  by_cases h0 : c.turn = 0
  · have := hc.zero h0
    subst this
    rfl
  · rw [if_neg (by rintro (h | h); exact h rfl; exact h0 h.1), if_neg h0]

theorem load_at {m : Nat} {d : DS} (h : Clean m d) {k : ByteArray} (hk : vname k = true) {c : CP} (hc : At k c d.dur) : loadD d k = (c.pos, c.st, decide (c.turn ≠ 0), 0) := by
  rw [load_clean h hk hc]
  by_cases h0 : c.turn = 0
  · have := hc.zero h0
    subst this
    rfl
  · rw [if_neg h0]; simp [h0]
/-- what a Save leaves: 0 all durable, 1 the Create refused, 2 the Sync refused -/
def saved (d : DS) (k : ByteArray) (c : CP) (how : Nat) (f : Int) : DS :=
  if how = 0 then ⟨d.dur.put (cfile k c.turn) c.enc, d.dur.put (cfile k c.turn) c.enc, [], f, false⟩
  else if how = 1 then ⟨d.dur, d.dur, [], f, true⟩
  else ⟨d.dur, d.dur.put (cfile k c.turn) c.enc, [⟨1, cfile k c.turn, ⟨#[]⟩, c.enc⟩], f, true⟩
theorem save_clean {m : Nat} {d : DS} (h : Clean m d) (hm : m < 256) {k : ByteArray} (hk : vname k = true) {c : CP} (hc : At k c d.dur) (ht : c.turn < 4611686018427387904) {pos : Int} (h0 : 0 ≤ pos) (h1 : (c.pos : Int) ≤ pos) (hp : pos ≤ 4611686018427387904) {b : List Int} (hb : b.length ≤ 2097152) :
    ∃ how f, saveD d k pos b = (saved d k ⟨c.turn + 1, pos.toNat, b⟩ how f, if how = 0 then 0 else 303) ∧ (d.fuse = 0 → how = 0 ∧ f = 0) := by
  unfold saveD
  rw [newest_clean h hk hc, if_neg (by rw [hk]; simp), if_neg (by simp), if_neg (by simp only; omega), if_neg (by omega)]
  have hcr : ∀ x, d.create (cfile k (c.turn + 1)) x = if 4194304 < x.length ∨ ((d.now.get (cfile k (c.turn + 1))).isSome = false ∧ 256 ≤ d.now.length) then (d, 302) else d.perform ⟨1, cfile k (c.turn + 1), ⟨#[]⟩, x⟩ := fun x => by
    have hck : chk d.down false d.now [cfile k (c.turn + 1)] = 0 := by
      unfold chk
      rw [h.down]
      simp [cfile_valid hk]
    unfold DS.create
    rw [hck, if_pos rfl]
  have hel := enc_len ⟨c.turn + 1, pos.toNat, b⟩ (by simp only; omega) (by simp only; omega) (by simp only; omega)
  have hl := h.len
  simp only at hel ⊢
  have hne : ¬ (4194304 < (CP.enc ⟨c.turn + 1, pos.toNat, b⟩).length ∨ ((d.now.get (cfile k (c.turn + 1))).isSome = false ∧ 256 ≤ d.now.length)) := by rw [h.now]; rintro (h | ⟨_, h⟩) <;> omega
  have hcr2 := hcr (CP.enc ⟨c.turn + 1, pos.toNat, b⟩)
  rw [if_neg hne] at hcr2
  rw [hcr2]
  clear hcr hcr2 hne
  unfold saved
  dsimp only
  generalize CP.enc ⟨c.turn + 1, pos.toNat, b⟩ = x at *
  have hpd := h.pend
  have hnd := h.now
  have hdd := h.down
  have hlo := h.ok.lo
  obtain ⟨dur, now, pend, fuse, down⟩ := d
  simp only at hpd hnd hdd hlo
  subst hpd hnd hdd
  have B0 : ∀ (a b : FS) (o : List Op) (q : Int), q = 0 → DS.burn ⟨a, b, o, q, false⟩ = (⟨a, b, o, q, false⟩, true) := fun a b o q hq => by unfold DS.burn; rw [if_pos hq]
  have B1 : ∀ (a b : FS) (o : List Op) (q : Int), ¬ q = 0 → q - 1 > 0 → DS.burn ⟨a, b, o, q, false⟩ = (⟨a, b, o, q - 1, false⟩, true) := fun a b o q hq h1 => by unfold DS.burn; rw [if_neg hq, if_pos h1]
  have B2 : ∀ (a b : FS) (o : List Op) (q : Int), ¬ q = 0 → ¬ q - 1 > 0 → DS.burn ⟨a, b, o, q, false⟩ = (⟨a, b, o, q - 1, true⟩, false) := fun a b o q hq h1 => by unfold DS.burn; rw [if_neg hq, if_neg h1]
  unfold DS.perform
  by_cases f0 : fuse = 0
  · refine ⟨0, 0, ?_, fun _ => ⟨rfl, rfl⟩⟩
    rw [B0 _ _ _ _ f0]
    subst f0
    simp only [if_true, List.nil_append]
    unfold DS.sync
    rw [B0 _ _ _ _ rfl]
    rfl
  · by_cases f1 : fuse - 1 > 0
    · rw [B1 _ _ _ _ f0 f1]
      simp only [if_true, List.nil_append]
      have f3 : ¬ fuse - 1 = 0 := by omega
      unfold DS.sync
      by_cases f2 : fuse - 1 - 1 > 0
      · refine ⟨0, fuse - 1 - 1, ?_, fun h => absurd h f0⟩
        rw [B1 _ _ _ _ f3 f2]
        rfl
      · refine ⟨2, fuse - 1 - 1, ?_, fun h => absurd h f0⟩
        rw [B2 _ _ _ _ f3 f2]
        rfl
    · refine ⟨1, fuse - 1, ?_, fun h => absurd h f0⟩
      rw [B2 _ _ _ _ f0 f1]
      rfl
theorem lose_restart (st : DS) (keep torn : Int) : (st.lose keep torn).restart = ⟨apps st.dur (st.kept keep torn), apps st.dur (st.kept keep torn), [], 0, false⟩ := rfl
theorem kept_nil {st : DS} (h : st.pend = []) (keep torn : Int) : st.kept keep torn = [] := by
  unfold DS.kept
  rw [h]
  simp
theorem kept_one {st : DS} {o : Op} (h : st.pend = [o]) (hw : o.writes = true) (keep torn : Int) : st.kept keep torn = if 1 ≤ keep then [o] else if 0 ≤ keep ∧ 0 ≤ torn then [o.cut torn] else [] := by
  by_cases hk : 1 ≤ keep
  · have e : st.keep keep = 1 := by unfold DS.keep; rw [h]; simp only [List.length_cons, List.length_nil]; omega
    unfold DS.kept
    rw [e, h, if_pos hk]
    simp
  · have e : st.keep keep = 0 := by unfold DS.keep; rw [h]; simp only [List.length_cons, List.length_nil]; omega
    unfold DS.kept
    rw [e, h, if_neg hk]
    simp [hw]
/-- the list that is durable behind a loss is one of these -/
theorem saved_lose {d : DS} {k : ByteArray} {c : CP} {how : Nat} {f : Int} (keep torn : Int) (hc1 : c.turn ≤ 4611686018427387904) (hc2 : c.pos ≤ 4611686018427387904) (hc3 : c.st.length ≤ 4611686018427387904) :
    ∃ L, ((saved d k c how f).lose keep torn).restart = ⟨L, L, [], 0, false⟩ ∧ ((how ≠ 0 ∧ L = d.dur) ∨ ∃ b, L = d.dur.put (cfile k c.turn) b ∧ (b = c.enc ∨ (how ≠ 0 ∧ CP.dec b = CP.zero))) := by
  rw [lose_restart]
  unfold saved
  by_cases h0 : how = 0
  · subst h0
    exact ⟨d.dur.put (cfile k c.turn) c.enc, by rw [kept_nil rfl]; rfl, .inr ⟨_, rfl, .inl rfl⟩⟩
  · rw [if_neg h0]
    by_cases h1 : how = 1
    · rw [if_pos h1]
      exact ⟨d.dur, by rw [kept_nil rfl]; rfl, .inl ⟨h0, rfl⟩⟩
    · rw [if_neg h1, kept_one rfl rfl]
      by_cases hk : 1 ≤ keep
      · rw [if_pos hk]
        exact ⟨d.dur.put (cfile k c.turn) c.enc, rfl, .inr ⟨c.enc, rfl, .inl rfl⟩⟩
      · rw [if_neg hk]
        by_cases ht : 0 ≤ keep ∧ 0 ≤ torn
        · rw [if_pos ht]
          refine ⟨d.dur.put (cfile k c.turn) (c.enc.take (min torn c.enc.length).toNat), rfl, .inr ⟨_, rfl, ?_⟩⟩
          by_cases hs : (min torn c.enc.length).toNat < c.enc.length
          · exact .inr ⟨h0, dec_prefix c hc1 hc2 hc3 hs⟩
          · exact .inl (List.take_of_length_le (by omega))
        · rw [if_neg ht]
          exact ⟨d.dur, rfl, .inl ⟨h0, rfl⟩⟩
theorem saved_pend (d : DS) (k : ByteArray) (c : CP) (how : Nat) (f : Int) : (saved d k c how f).pend.length ≤ 1 := by
  unfold saved
  split
  · simp
  · split <;> simp
theorem put_le (l : FS) (k : ByteArray) (v : List Int) : (l.put k v).length ≤ l.length + 1 := by
  rw [FS.put_len]
  split <;> omega
/-- the device behind a Save that returned OK -/
theorem saved_ok {m : Nat} {d : DS} (h : Clean m d) {k : ByteArray} {c : CP} {pos : Int} {b : List Int} {how : Nat} {f : Int} (hs : saveD d k pos b = (saved d k c how f, if how = 0 then 0 else 303)) (hb : BL b) (h0 : how = 0) : Clean (m + 1) (saved d k c how f) := by
  have h1 := h.ok.save k pos b
  have h2 := h.b.save k pos hb
  rw [hs] at h1 h2
  subst h0
  exact ⟨h1, h2, rfl, rfl, Nat.le_trans (put_le _ _ _) (Nat.succ_le_succ h.len)⟩
theorem saved_at {d : DS} {k : ByteArray} {c : CP} {pos : Nat} {b : List Int} (hc : At k c d.dur) (ht : c.turn < 4611686018427387904) (hp : pos ≤ 4611686018427387904) (hb : b.length ≤ 2097152) (f : Int) : At k ⟨c.turn + 1, pos, b⟩ (saved d k ⟨c.turn + 1, pos, b⟩ 0 f).dur := by
  have := hc.put (dec_enc ⟨c.turn + 1, pos, b⟩ (by simp only; omega) (by simp only; omega) (by simp only; omega)) (.inr rfl)
  simpa [saved] using this
/-- the device behind a Save, a loss and a restart: the old checkpoint or the new one, the new one if the Save returned OK -/
theorem saved_lost {m : Nat} {d : DS} (h : Clean m d) {k : ByteArray} {c : CP} (hc : At k c d.dur) (ht : c.turn < 4611686018427387904) {pos : Nat} (hp : pos ≤ 4611686018427387904) {b : List Int} (hb : b.length ≤ 2097152) (hbl : BL b) {how : Nat} {f : Int} {q : Int}
    (hs : saveD d k q b = (saved d k ⟨c.turn + 1, pos, b⟩ how f, if how = 0 then 0 else 303)) (keep torn : Int) :
    Clean (m + 1) ((saved d k ⟨c.turn + 1, pos, b⟩ how f).lose keep torn).restart ∧ ∃ c', At k c' ((saved d k ⟨c.turn + 1, pos, b⟩ how f).lose keep torn).restart.dur ∧ (c' = ⟨c.turn + 1, pos, b⟩ ∨ (how ≠ 0 ∧ c' = c)) := by
  have h1 := h.ok.save k q b
  have h2 := h.b.save k q hbl
  rw [hs] at h1 h2
  have h3 := (h1.lose keep torn).restart
  have h4 := (h2.lose keep torn).restart
  have hen := dec_enc ⟨c.turn + 1, pos, b⟩ (by simp only; omega) (by simp only; omega) (by simp only; omega)
  obtain ⟨L, e, hL⟩ := saved_lose (d := d) (k := k) (c := ⟨c.turn + 1, pos, b⟩) (how := how) (f := f) keep torn (by simp only; omega) (by simp only; omega) (by simp only; omega)
  simp only at e h3 h4 hL
  rw [e] at h3 h4 ⊢
  have hl := h.len
  rcases hL with ⟨hh, rfl⟩ | ⟨x, rfl, hx⟩
  · exact ⟨⟨h3, h4, rfl, rfl, by show d.dur.length ≤ _; omega⟩, c, hc, .inr ⟨hh, rfl⟩⟩
  · refine ⟨⟨h3, h4, rfl, rfl, Nat.le_trans (put_le _ _ _) (Nat.succ_le_succ hl)⟩, ?_⟩
    rcases hx with rfl | ⟨hh, hx⟩
    · have := hc.put hen (.inr rfl)
      exact ⟨_, by simpa using this, .inl rfl⟩
    · have := hc.put hx (.inl rfl)
      rw [if_neg (by show ¬ (0 : Nat) = _; omega)] at this
      exact ⟨c, this, .inr ⟨hh, rfl⟩⟩
end Go.Proofs.Ytalnhdeckdakfaa.Dev
