/-
  checkpoint: newest.
-/
import Derived.Test.YtalnhdeckdakfaaCkB
import Derived.Test.YtalnhdeckdakfaaDevV
import Derived.Test.YtalnhdeckdakfaaSepL
namespace Go.Proofs.Ytalnhdeckdakfaa.Dev
open Go.RowKit Go.Proofs Co
set_option linter.unusedVariables false
set_option linter.unusedSectionVars false
set_option linter.unusedSimpArgs false
variable [Bs]

/-- every byte a byte -/
def BR (l : FS) : Prop := ∀ p ∈ l, ∀ x ∈ p.2, 0 ≤ x ∧ x < 256
theorem BR.read {st : DS} (h : BR st.now) (k : ByteArray) : ∀ x ∈ (st.read k).1, 0 ≤ x ∧ x < 256 := by
  unfold DS.read
  split
  · cases hg : st.now.get k with
    | none => exact fun x hx => by cases hx
    | some b => exact h (k, b) (FS.get_mem hg)
  · exact fun x hx => by cases hx
theorem read_len {st : DS} (h : st.Ok) (k : ByteArray) : (st.read k).1.length ≤ 4194304 := by
  unfold DS.read
  split
  · exact h.bnow.get k
  · simp
def okR (r : List Int × Int) : Prop := r.2 = 0 ∨ r.2 = 301
instance (r : List Int × Int) : Decidable (okR r) := inferInstanceAs (Decidable (_ ∨ _))
def pick (s : CP) (r : List Int × Int) : CP := if r.2 = 0 ∧ s.turn < (CP.dec r.1).turn then CP.dec r.1 else s
def nst (st : DS) (k : ByteArray) : Nat → CP
  | 0 => CP.zero
  | q + 1 => pick (nst st k q) (st.read (cfile k q))
def newestD (st : DS) (k : ByteArray) : CP × Int :=
  if ¬ okR (st.read (cfile k 0)) then (CP.zero, (st.read (cfile k 0)).2)
  else if ¬ okR (st.read (cfile k 1)) then (CP.zero, (st.read (cfile k 1)).2)
  else (nst st k 2, 0)
theorem newest_err {st : DS} {k : ByteArray} {q : Nat} (hq : q < 2) (h : ∀ i, i < q → okR (st.read (cfile k i))) (hb : ¬ okR (st.read (cfile k q))) : newestD st k = (CP.zero, (st.read (cfile k q)).2) := by
  match q, hq with
  | 0, _ => rw [newestD, if_pos hb]
  | 1, _ => rw [newestD, if_neg (by simpa using h 0 (by omega)), if_pos hb]
theorem newest_two {st : DS} {k : ByteArray} (h : ∀ i, i < 2 → okR (st.read (cfile k i))) : newestD st k = (nst st k 2, 0) := by
  rw [newestD, if_neg (by simpa using h 0 (by omega)), if_neg (by simpa using h 1 (by omega))]
theorem dec_bound (xs : List Int) : (CP.dec xs).turn ≤ 4611686018427387904 ∧ (CP.dec xs).pos ≤ 4611686018427387904 ∧ (CP.dec xs).st.length ≤ xs.length := by
  unfold CP.dec
  split
  · simp [CP.zero]
  · rename_i h1
    split
    · simp [CP.zero]
    · rename_i h2
      split
      · simp [CP.zero]
      · dsimp only
        split
        · refine ⟨?_, ?_, by simp⟩
          · exact Nat.le_of_not_lt fun h => h1 (.inr h)
          · exact Nat.le_of_not_lt fun h => h2 (.inr h)
        · simp [CP.zero]
theorem cfile_size (k : ByteArray) (t : Nat) : (cfile k t).size = k.size + 7 := by
  unfold cfile
  split <;> simp [ByteArray.size_append] <;> rfl

set_option maxHeartbeats 4000000 in
set_option maxRecDepth 100000 in
theorem newest_dev {w : World} {d : Nat} {st : DS} {S : Nat → Prop} (h : DevI w d st S) (ok : st.Ok) (hbr : BR st.now) (k : ByteArray) (hk : k.size ≤ 1000) (hB : Bs.n ≤ w.heap.size) :
    Calls Try.prog 37 #[.pointer (some ⟨d, 0, none⟩), .string k] w fun e w' => ∃ v, e = .returned (.tuple #[.agg #[.int .i64 (newestD st k).1.turn, .int .i64 (newestD st k).1.pos, v], .int .i64 (newestD st k).2]) ∧ Rd w' v (newestD st k).1.st ∧ Below w.heap.size w w' := by
  have HD := Lib.hid h
  have Hok := Lib.hid ok
  have Hbr := Lib.hid hbr
  clear h ok hbr
  have hb0 : Below w.heap.size w ((w.alloc (.cells #[.int .i64 0, .int .i64 0, .slice none 0 0] 81)).alloc (.cells #[.int .i64 0, .int .i64 0, .slice none 0 0] 81)) := ((Below.refl _ _).alloc (Nat.le_refl _) _).alloc (by simp) _
  have hh0 := heap_alloc_new (w.alloc (.cells #[.int .i64 0, .int .i64 0, .slice none 0 0] 81)) (.cells #[.int .i64 0, .int .i64 0, .slice none 0 0] 81)
  have hr0 := blk_below (heap_alloc_new w (.cells #[.int .i64 0, .int .i64 0, .slice none 0 0] 81)) ((Below.refl _ _).alloc (Nat.le_refl _) (.cells #[.int .i64 0, .int .i64 0, .slice none 0 0] 81))
  have hsz : (w.alloc (.cells #[.int .i64 0, .int .i64 0, .slice none 0 0] 81)).heap.size = w.heap.size + 1 := by simp
  rw [hsz] at hh0
  have HB0 := Lib.hid hb0
  have Hh0 := Lib.hid hh0
  have Hr0 := Lib.hid hr0
  clear hb0 hh0 hr0 hsz
  go_enter Try.func37, Try.ntmps37
  go_wp2
  go_loopw [11, 7, 8, 9, 10] (fun i _ _ _ _ wr => ∃ (q : Nat) (v : Value), q ≤ 2 ∧ i = .int .i64 q ∧ Below w.heap.size w wr ∧ wr.heap[w.heap.size + 1]? = some (.cells #[.int .i64 (nst st k q).turn, .int .i64 (nst st k q).pos, v] 81 (0, 0)) ∧ wr.heap[w.heap.size]? = some (.cells #[.int .i64 0, .int .i64 0, .slice none 0 0] 81 (0, 0)) ∧ Rd wr v (nst st k q).st ∧ ∀ j, j < q → okR (st.read (cfile k j))) (fun i _ _ _ _ _ => 2 - (intOf i).toNat)
  case atStart => exact ⟨0, _, by omega, rfl, HB0.out, Hh0.out, Hr0.out, ⟨none, 0, rfl, Nat.le_refl _, by omega, fun i hi => absurd hi (by simp [nst, CP.zero])⟩, fun j hj => absurd hj (by omega)⟩
  case round =>
    obtain ⟨q, v, hq, rfl, hb, hh, hr, hv, hoks⟩ := hrel
    have Hh := Lib.hid hh
    have Hr := Lib.hid hr
    have Hb := Lib.hid hb
    have Hv := Lib.hid hv
    have Hoks := Lib.hid hoks
    obtain ⟨VA, VC, rfl, _⟩ := hv
    clear hh hr hb hoks HB0 Hh0 Hr0
    by_cases hlt : q < 2
    · go_wp2_with fail
      refine (cpfile_calls wr k q (by omega) hk).mono ?_
      rintro e w1 ⟨rfl, hb1⟩
      have Hb1 := Lib.hid (below_trans Hb.out hb1)
      have hh1 := blk_below Hh.out hb1
      have hr1 := blk_below Hr.out hb1
      have hv1 := U8.below hb1 _ _ Hv.out
      have Hh1 := Lib.hid hh1
      have Hr1 := Lib.hid hr1
      have Hv1 := Lib.hid hv1
      clear hb1 hh1 hr1 hv1
      go_wp2_with fail
      refine (read_dev (HD.out.below Hb1.out) (cfile k q) (by rw [cfile_size]; omega) (Hok.out.bnow.get _)).mono ?_
      rintro e w2 ⟨b, rfl, ho, hb2⟩
      have Hb2 := Lib.hid (below_trans Hb1.out hb2)
      have hh2 := blk_below Hh1.out hb2
      have hr2 := blk_below Hr1.out hb2
      have hv2 := U8.below hb2 _ _ Hv1.out
      have Hh2 := Lib.hid hh2
      have Hr2 := Lib.hid hr2
      have Hv2 := Lib.hid hv2
      have Hbx := Lib.hid (Rd.own ho)
      have Hby := Lib.hid (Hbr.out.read (cfile k q))
      have Hbl := Lib.hid (read_len Hok.out (cfile k q))
      have Hnx : Hid (nst st k (q + 1) = pick (nst st k q) (st.read (cfile k q))) := Lib.hid rfl
      have Herr : Hid (¬ okR (st.read (cfile k q)) → newestD st k = (CP.zero, (st.read (cfile k q)).2)) := Lib.hid (newest_err hlt Hoks.out)
      have Hok' : Hid (okR (st.read (cfile k q)) → ∀ j, j < q + 1 → okR (st.read (cfile k j))) := Lib.hid fun h j hj => by
        rcases Nat.lt_or_ge j q with h' | h'
        · exact Hoks.out j h'
        · have : j = q := by omega
          subst this; exact h
      clear ho hb2 hh2 hr2 hv2 Hh1 Hr1 Hv1 Hh Hr Hv Hoks
      generalize st.read (cfile k q) = rd at *
      obtain ⟨xs, er⟩ := rd
      simp only at Hbx Hby Hbl Herr ⊢
      by_cases he : er = 0
      · subst he
        go_wp2_with fail
        refine (decode_calls Hbx.out Hby.out (by have := Hbl.out; omega) (Nat.le_trans hB Hb2.out.size)).mono ?_
        rintro e w3 ⟨v3, rfl, hv3, hb3⟩
        have Hb3 := Lib.hid (below_trans Hb2.out hb3)
        have hh3 := blk_below Hh2.out hb3
        have hr3 := blk_below Hr2.out hb3
        have Hv3 := Lib.hid (U8.below hb3 _ _ Hv2.out)
        have Hx3 := Lib.hid hv3
        have hdb := dec_bound xs
        obtain ⟨XA, XC, rfl, _⟩ := hv3
        generalize hdx : CP.dec xs = dx at *
        have Hdx := Lib.hid hdx
        have hba : Below w3.heap.size w3 (w3.alloc (.cells #[.int .i64 dx.turn, .int .i64 dx.pos, .slice XA dx.st.length XC] 81)) := (Below.refl _ _).alloc (Nat.le_refl _) _
        have hx4 := heap_alloc_new w3 (.cells #[.int .i64 dx.turn, .int .i64 dx.pos, .slice XA dx.st.length XC] 81)
        have hh4 := blk_below hh3 hba
        have hr4 := blk_below hr3 hba
        have Hb4 := Lib.hid (below_trans Hb3.out hba)
        have Hv4 := Lib.hid (U8.below hba _ _ Hv3.out)
        have Hx4 := Lib.hid (U8.below hba _ _ Hx3.out)
        have Hhx := Lib.hid hx4
        have Hh4 := Lib.hid hh4
        have Hr4 := Lib.hid hr4
        clear hb3 hdx hh3 hr3 hba hx4 hh4 hr4 Hv3 Hx3 Hh2 Hr2 Hv2 Hb3
        have s0 := (blk_cell Hh4.out 0).trans (show _ = some (Value.int .i64 (nst st k q).turn) from rfl)
        have s1 := (blk_cell Hh4.out 1).trans (show _ = some (Value.int .i64 (nst st k q).pos) from rfl)
        have s2 := (blk_cell Hh4.out 2).trans (show _ = some (Value.slice VA (nst st k q).st.length VC) from rfl)
        have sf0 := blk_frozen Hh4.out 0
        have sf1 := blk_frozen Hh4.out 1
        have sf2 := blk_frozen Hh4.out 2
        have x0 := (blk_cell Hhx.out 0).trans (show _ = some (Value.int .i64 dx.turn) from rfl)
        have x1 := (blk_cell Hhx.out 1).trans (show _ = some (Value.int .i64 dx.pos) from rfl)
        have x2 := (blk_cell Hhx.out 2).trans (show _ = some (Value.slice XA dx.st.length XC) from rfl)
        have hgB : Bs.n ≤ w.heap.size + 1 := by omega
        have Hpk : Hid (nst st k (q + 1) = if (nst st k q).turn < dx.turn then dx else nst st k q) := Lib.hid (by
          rw [Hnx.out, pick]
          simp only [Hdx.out, true_and])
        have HO' := Lib.hid (Hok'.out (.inl rfl))
        clear Hnx Hok' Herr Hdx
        generalize hsq : nst st k q = sq at *
        clear hsq
        by_cases hgt : sq.turn < dx.turn
        · have hgd : (sq.turn : Int) < (dx.turn : Int) := by omega
          obtain ⟨a1, a2, a3, a4⟩ := set3 Hh4.out hgB (.int .i64 dx.turn) (.int .i64 dx.pos) (.slice XA dx.st.length XC)
          have A1 := Lib.hid a1
          have A2 := Lib.hid ((a2 w.heap.size (by omega)).trans Hr4.out)
          have A3 := Lib.hid (a3 _ _ Hx4.out)
          have A4 := Lib.hid (a4 _ _ (by omega) Hb4.out)
          have hp := Hpk.out
          rw [if_pos hgt] at hp
          have HP := Lib.hid hp
          clear a1 a2 a3 a4 hp
          go_wp2
          refine ⟨⟨q + 1, .slice XA dx.st.length XC, by omega, by go_num, A4.out, ?_, A2.out, ?_, HO'.out⟩, by simp [intOf]; omega⟩
          · rw [HP.out]; exact A1.out
          · rw [HP.out]; exact A3.out
        · have hgd : ¬ (sq.turn : Int) < (dx.turn : Int) := by omega
          have hp := Hpk.out
          rw [if_neg hgt] at hp
          have HP := Lib.hid hp
          clear hp
          go_wp2
          refine ⟨⟨q + 1, .slice VA sq.st.length VC, by omega, by go_num, Hb4.out, ?_, Hr4.out, ?_, HO'.out⟩, by simp [intOf]; omega⟩
          · rw [HP.out]; exact Hh4.out
          · rw [HP.out]; exact Hv4.out
      · by_cases h3 : er = 301
        · subst h3
          have HO' := Lib.hid (Hok'.out (.inr rfl))
          have HP : Hid (nst st k (q + 1) = nst st k q) := Lib.hid (by rw [Hnx.out, pick, if_neg (by simp)])
          clear Hnx Hok' Herr
          generalize hsq : nst st k q = sq at *
          go_wp2
          refine ⟨⟨q + 1, .slice VA sq.st.length VC, by omega, by go_num, Hb2.out, ?_, Hr2.out, ?_, HO'.out⟩, by simp [intOf]; omega⟩
          · rw [HP.out]; exact Hh2.out
          · rw [HP.out]; exact Hv2.out
        · have e0 : (er == 0) = false := by rw [beq_eq_false_iff_ne]; exact he
          have e3 : (er == 301) = false := by rw [beq_eq_false_iff_ne]; exact h3
          have hn := Herr.out (by rintro (h | h); exact he h; exact h3 h)
          have HN := Lib.hid hn
          have r0 := (blk_cell Hr2.out 0).trans (show _ = some (Value.int .i64 0) from rfl)
          have r1 := (blk_cell Hr2.out 1).trans (show _ = some (Value.int .i64 0) from rfl)
          have r2 := (blk_cell Hr2.out 2).trans (show _ = some (Value.slice none 0 0) from rfl)
          have rf0 := blk_frozen Hr2.out 0
          have rf1 := blk_frozen Hr2.out 1
          have rf2 := blk_frozen Hr2.out 2
          obtain ⟨a1, a2, a3, a4⟩ := set3 Hr2.out hB (.int .i64 0) (.int .i64 0) (.slice none 0 0)
          have A4 := Lib.hid (a4 _ _ (Nat.le_refl _) Hb2.out)
          clear a1 a2 a3 a4 hn Hnx Hok' Herr
          go_wp2
          refine bodyPost_ret (v := .tuple #[.agg #[.int .i64 0, .int .i64 0, .slice none 0 0], .int .i64 er]) ?_ rfl ⟨.slice none 0 0, by rw [HN.out]; rfl, by rw [HN.out]; exact ⟨none, 0, rfl, Nat.le_refl _, by omega, fun i hi => absurd hi (by simp [CP.zero])⟩, A4.out⟩
          have hres : Try.f37.results = #[.cell 4 81, .tmp 5] := by kernel_rfl
          simp only [results, hres]
          go_simp
    · have hq2 : q = 2 := by omega
      subst hq2
      have hn := newest_two Hoks.out
      have HN := Lib.hid hn
      clear hn Hoks
      generalize hsq : nst st k 2 = sq at *
      have s0 := (blk_cell Hh.out 0).trans (show _ = some (Value.int .i64 sq.turn) from rfl)
      have s1 := (blk_cell Hh.out 1).trans (show _ = some (Value.int .i64 sq.pos) from rfl)
      have s2 := (blk_cell Hh.out 2).trans (show _ = some (Value.slice VA sq.st.length VC) from rfl)
      have r0 := (blk_cell Hr.out 0).trans (show _ = some (Value.int .i64 0) from rfl)
      have r1 := (blk_cell Hr.out 1).trans (show _ = some (Value.int .i64 0) from rfl)
      have r2 := (blk_cell Hr.out 2).trans (show _ = some (Value.slice none 0 0) from rfl)
      have rf0 := blk_frozen Hr.out 0
      have rf1 := blk_frozen Hr.out 1
      have rf2 := blk_frozen Hr.out 2
      obtain ⟨a1, a2, a3, a4⟩ := set3 Hr.out hB (.int .i64 sq.turn) (.int .i64 sq.pos) (.slice VA sq.st.length VC)
      have A3 := Lib.hid (a3 _ _ Hv.out)
      have A4 := Lib.hid (a4 _ _ (Nat.le_refl _) Hb.out)
      clear a1 a2 a3 a4 hsq
      go_wp2
      refine bodyPost_ret (v := .tuple #[.agg #[.int .i64 sq.turn, .int .i64 sq.pos, .slice VA sq.st.length VC], .int .i64 0]) ?_ rfl ⟨.slice VA sq.st.length VC, by rw [HN.out], by rw [HN.out]; exact A3.out, A4.out⟩
      have hres : Try.f37.results = #[.cell 4 81, .tmp 5] := by kernel_rfl
      simp only [results, hres]
      go_simp
end Go.Proofs.Ytalnhdeckdakfaa.Dev
