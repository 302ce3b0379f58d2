/-
  DeviceFuse, walked.
-/
import Derived.Test.YtjcjgeneehhgbaaSepL
import Derived.Test.YtjcjgeneehhgbaaLTorn
namespace Go.Proofs.Ytjcjgeneehhgbaa.Dev
open Go.RowKit Go.Proofs
set_option linter.unusedVariables false
set_option linter.unusedSectionVars false
set_option linter.unusedSimpArgs false
variable [Bs]

/-- ahead of the i-th operation, with the fuse n -/
structure FSt (n i : Nat) (d : DS) : Prop where
  ok : d.Ok
  len : d.now.length ≤ i
  pend : d.pend.length ≤ i
  st : if i ≤ n then d.fuse = (n : Int) - i + 1 ∧ d.down = false else d.fuse = 0 ∧ d.down = true
theorem app_len (l : FS) (o : Op) (hk : o.kind = 1) : (app l o).length ≤ l.length + 1 := by
  unfold app
  rw [if_pos hk, FS.put_len]
  split <;> omega
theorem FSt.sync {n i : Nat} {d : DS} (h : FSt n i d) : FSt n (i + 1) d.sync.1 ∧ d.sync.2 = (if i < n then 0 else 303) ∧ d.sync.1.down = decide (n ≤ i) := by
  have hok := h.ok.sync
  have hst := h.st
  by_cases h1 : i ≤ n
  · rw [if_pos h1] at hst
    obtain ⟨hf, hd⟩ := hst
    by_cases h2 : i < n
    · have hb : d.burn = ({ d with fuse := d.fuse - 1 }, true) := by
        unfold DS.burn
        rw [if_neg (by omega), if_pos (by omega)]
      have e : d.sync = ({ d with fuse := d.fuse - 1 }.settle d.pend, 0) := by simp [DS.sync, hd, hb]
      rw [e] at hok ⊢
      refine ⟨⟨hok, ?_, by simp [DS.settle], ?_⟩, by simp [h2], ?_⟩
      · have := h.len
        have hn := h.ok.now
        show (apps d.dur d.pend).length ≤ i + 1
        rw [← hn]; omega
      · rw [if_pos (by omega)]
        exact ⟨by show d.fuse - 1 = _; omega, hd⟩
      · show d.down = _
        rw [hd]; simp; omega
    · have hin : i = n := by omega
      have hb : d.burn = ({ d with fuse := d.fuse - 1, down := true }, false) := by
        unfold DS.burn
        rw [if_neg (by omega), if_neg (by omega)]
      have e : d.sync = ({ d with fuse := d.fuse - 1, down := true }, 303) := by simp [DS.sync, hd, hb]
      rw [e] at hok ⊢
      refine ⟨⟨hok, by show d.now.length ≤ _; have := h.len; omega, by show d.pend.length ≤ _; have := h.pend; omega, ?_⟩, by simp [h2], ?_⟩
      · rw [if_neg (by omega)]
        exact ⟨by show d.fuse - 1 = _; omega, rfl⟩
      · show true = _; simp; omega
  · rw [if_neg h1] at hst
    have e : d.sync = (d, 303) := by simp [DS.sync, hst.2]
    rw [e]
    refine ⟨⟨h.ok, by show d.now.length ≤ _; have := h.len; omega, by show d.pend.length ≤ _; have := h.pend; omega, ?_⟩, ?_, ?_⟩
    · rw [if_neg (by omega)]; exact hst
    · rw [if_neg (by omega)]
    · rw [hst.2]; simp; omega
theorem FSt.create {n i : Nat} {d : DS} (h : FSt n i d) {k : ByteArray} {b : List Int} (hk : valid k = true) (hb : b.length ≤ 4194304) (hi : i < 200) : FSt n (i + 1) (d.create k b).1 ∧ (d.create k b).2 = (if i < n then 0 else 303) ∧ (d.create k b).1.down = decide (n ≤ i) := by
  have hok := h.ok.create k b
  have hst := h.st
  by_cases h1 : i ≤ n
  · rw [if_pos h1] at hst
    obtain ⟨hf, hd⟩ := hst
    have hc : chk d.down false d.now [k] = 0 := by simp [chk, hd, hk]
    have hce : d.create k b = d.perform ⟨1, k, ⟨#[]⟩, b⟩ := create_ok hc hb (by have := h.len; omega)
    rw [hce] at hok ⊢
    by_cases h2 : i < n
    · have hbn : d.burn = ({ d with fuse := d.fuse - 1 }, true) := by
        unfold DS.burn
        rw [if_neg (by omega), if_pos (by omega)]
      have e : d.perform ⟨1, k, ⟨#[]⟩, b⟩ = ({ d with fuse := d.fuse - 1, now := app d.now ⟨1, k, ⟨#[]⟩, b⟩, pend := d.pend ++ [⟨1, k, ⟨#[]⟩, b⟩] }, 0) := by simp [DS.perform, hbn]
      rw [e] at hok ⊢
      refine ⟨⟨hok, ?_, ?_, ?_⟩, by simp [h2], ?_⟩
      · have := h.len
        have h3 := app_len d.now ⟨1, k, ⟨#[]⟩, b⟩ rfl
        show (app d.now ⟨1, k, ⟨#[]⟩, b⟩).length ≤ i + 1
        omega
      · have := h.pend
        show (d.pend ++ [(⟨1, k, ⟨#[]⟩, b⟩ : Op)]).length ≤ i + 1
        rw [List.length_append]; simp; omega
      · rw [if_pos (by omega)]
        exact ⟨by show d.fuse - 1 = _; omega, hd⟩
      · show d.down = _
        rw [hd]; simp; omega
    · have hbn : d.burn = ({ d with fuse := d.fuse - 1, down := true }, false) := by
        unfold DS.burn
        rw [if_neg (by omega), if_neg (by omega)]
      have e : d.perform ⟨1, k, ⟨#[]⟩, b⟩ = ({ d with fuse := d.fuse - 1, down := true }, 303) := by simp [DS.perform, hbn]
      rw [e] at hok ⊢
      refine ⟨⟨hok, by show d.now.length ≤ _; have := h.len; omega, by show d.pend.length ≤ _; have := h.pend; omega, ?_⟩, by simp [h2], ?_⟩
      · rw [if_neg (by omega)]
        exact ⟨by show d.fuse - 1 = _; omega, rfl⟩
      · show true = _; simp; omega
  · rw [if_neg h1] at hst
    have hc : chk d.down false d.now [k] = 303 := by simp [chk, hst.2]
    have e : d.create k b = (d, 303) := by simp only [DS.create, hc]; rfl
    rw [e]
    refine ⟨⟨h.ok, by show d.now.length ≤ _; have := h.len; omega, by show d.pend.length ≤ _; have := h.pend; omega, ?_⟩, ?_, ?_⟩
    · rw [if_neg (by omega)]; exact hst
    · rw [if_neg (by omega)]
    · rw [hst.2]; simp; omega
theorem FSt.first (n : Nat) (hn : 1 ≤ n) (hn8 : n ≤ 8) : FSt n 1 (DS.new.setFuse n) where
  ok := DS.ok_new.setFuse (by omega)
  len := by show ([] : FS).length ≤ 1; simp
  pend := by show ([] : List Op).length ≤ 1; simp
  st := by
    rw [if_pos hn]
    exact ⟨by show max (n : Int) 0 = _; omega, rfl⟩
theorem FSt.last {n i : Nat} {d : DS} (h : FSt n i d) (hi : n < i) : d.restart.down = false ∧ d.restart.pend = [] ∧ d.restart.fuse = 0 ∧ d.restart.Ok := by
  have hst := h.st
  rw [if_neg (by omega)] at hst
  have hok := h.ok.restart
  unfold DS.restart at hok ⊢
  rw [if_pos hst.2] at hok ⊢
  exact ⟨rfl, rfl, hst.1, hok⟩

set_option maxHeartbeats 4000000 in
set_option maxRecDepth 100000 in
theorem fuse_walk {w : World} (hB : Bs.n = w.heap.size) {lv : Value} {xs : List Int} {n0 : Int} (hn0 : -9223372036854775808 ≤ n0 ∧ n0 ≤ 9223372036854775807) (hl : RdI w lv xs) :
    Calls Try.prog 4 #[lv, .int .i64 n0] w fun e w' => e = .returned (.bool true) ∧ Below w.heap.size w w' := by
  have Hl := Lib.hid hl
  obtain ⟨A0, c0, rfl, _⟩ := hl
  have hq : Bs.n ≤ w.heap.size := Nat.le_of_eq hB
  have hT := fun i => stable_tape w w.heap.size xs i
  have hS := fun d st i => (stable_dev d st).star ((hT i).star stable_emp)
  obtain ⟨m, hm⟩ : ∃ m : Nat, fold n0 8 = m := ⟨(fold n0 8).toNat, by have := fold_range n0 (show (1 : Int) ≤ 8 by omega); omega⟩
  have hm8 : m ≤ 7 := by have := fold_range n0 (show (1 : Int) ≤ 8 by omega); omega
  have Hm := Lib.hid hm
  clear hm
  go_enter Try.func4, Try.ntmps4
  go_wp2_with fail
  have h0 := tape_L hB Hl.out
  refine (new_L ((hT 0).star stable_emp) hq h0.1).mono ?_
  rintro e w1 ⟨d, rfl, h1, hu1⟩
  have HL1 := Lib.hid h1
  clear h0 h1 hu1
  go_wp2_with fail
  refine (fold_calls w1 hn0 (by omega)).mono ?_
  rw [Hm.out]
  rintro e _ ⟨rfl, rfl⟩
  go_wp2_with fail
  refine (known_L (hS _ _ _) hq HL1.out).mono ?_
  rintro e w2 ⟨rfl, h1, hu⟩
  have HL2 := Lib.hid h1
  clear h1 hu HL1
  go_wp2_with fail
  refine (fuse_L ((hT 0).star stable_emp) HL2.out (st' := DS.new.setFuse ((m + 1 : Nat) : Int)) (by congr 1; omega)).mono ?_
  rintro e w3 ⟨rfl, h1, hu⟩
  have HL3 := Lib.hid (LS.rot h1)
  clear h1 hu HL2
  go_wp2
  go_loopw [7, 8] (fun iv ev wr => ∃ (i : Nat) (st : DS) (j : Nat), 1 ≤ i ∧ i ≤ 12 ∧ iv = .int .i64 i ∧ LS w (star (TapeO w w.heap.size xs j) (star (DevO d st) emp)) wr ∧ FSt (m + 1) i st ∧ j + 100 * (12 - i) ≤ 10000) (fun iv _ _ => 12 - (intOf iv).toNat)
  case atStart => exact ⟨1, _, 0, by omega, by omega, rfl, HL3.out, FSt.first (m + 1) (by omega) (by omega), by omega⟩
  case round =>
    obtain ⟨i, st, j, hi1, hi2, rfl, hL, hF, hj⟩ := hrel
    have HL := Lib.hid hL
    have HF := Lib.hid hF
    clear hL hF HL3
    by_cases hlt : i < 12
    · have hpl := HF.out.pend
      go_wp2_with fail
      refine (next_L ((stable_dev d _).star stable_emp) hq HL.out (by omega) 3 (by omega)).mono ?_
      rintro e w5 ⟨rfl, h1, hu⟩
      have HL5 := Lib.hid h1
      clear h1 hu HL
      by_cases hy : tnext xs j 3 = 0
      · rw [hy]
        clear hy
        go_wp2_with fail
        refine (sync_L ((hT _).star stable_emp) (LS.rot HL5.out) (st' := st.sync.1) (r := st.sync.2) rfl (HF.out.ok.fuel (by omega)) HF.out.ok.fits).mono ?_
        rintro e w6 ⟨rfl, h1, hu⟩
        have hpair := HF.out.sync
        have Hp := Lib.hid hpair
        have HL8 := Lib.hid (LS.rot h1)
        clear h1 hu hpair HL5 HF
        by_cases hin : i < m + 1
        · have hr : (st.sync).2 = 0 := by rw [Hp.out.2.1, if_pos hin]
          have hdn : (st.sync).1.down = false := by rw [Hp.out.2.2]; simp; omega
          have HP := Lib.hid Hp.out.1
          rw [hr]
          clear hr Hp
          generalize (st.sync).1 = st2 at *
          have Hdn := Lib.hid hdn
          clear hdn
          go_wp2_with fail
          refine (down_L (LS.rot HL8.out) Hdn.out).mono ?_
          rintro e _ ⟨rfl, rfl⟩
          go_wp2
          refine ⟨⟨i + 1, st2, j + 1, by omega, by omega, by go_num, HL8.out, HP.out, by omega⟩, by simp [intOf]; omega⟩
        · have hr : (st.sync).2 = 303 := by rw [Hp.out.2.1, if_neg hin]
          have hdn : (st.sync).1.down = true := by rw [Hp.out.2.2]; simp; omega
          have HP := Lib.hid Hp.out.1
          rw [hr]
          clear hr Hp
          generalize (st.sync).1 = st2 at *
          have Hdn := Lib.hid hdn
          clear hdn
          go_wp2_with fail
          refine (down_L (LS.rot HL8.out) Hdn.out).mono ?_
          rintro e _ ⟨rfl, rfl⟩
          go_wp2
          refine ⟨⟨i + 1, st2, j + 1, by omega, by omega, by go_num, HL8.out, HP.out, by omega⟩, by simp [intOf]; omega⟩
      · have hyb : (tnext xs j 3 == 0) = false := by simpa using hy
        generalize tnext xs j 3 = y at *
        clear hy
        go_wp2_with fail
        refine (plain_L ((stable_dev d _).star stable_emp) hq HL5.out (by omega)).mono ?_
        rintro e w6 ⟨rfl, h1, hu⟩
        have HL6 := Lib.hid h1
        have hvs := Lib.hid (plainS_ok (tnext_range xs (j + 1) (show (1 : Int) ≤ 4 by omega)).1 (tnext_range xs (j + 1) (show (1 : Int) ≤ 4 by omega)).2)
        clear h1 hu HL5 hyb
        generalize plainS (tnext xs (j + 1) 4) = k at *
        obtain ⟨n, hny⟩ : ∃ n : Nat, tnext xs (j + 1 + 1) 4 = n := ⟨(tnext xs (j + 1 + 1) 4).toNat, by have := tnext_range xs (j + 1 + 1) (show (1 : Int) ≤ 4 by omega); omega⟩
        have hn4 : n ≤ 3 := by have := tnext_range xs (j + 1 + 1) (show (1 : Int) ≤ 4 by omega); omega
        have Hny := Lib.hid hny
        clear hny
        go_wp2_with fail
        refine (next_L ((stable_dev d _).star stable_emp) hq HL6.out (by omega) 4 (by omega)).mono ?_
        rw [Hny.out]
        rintro e w7 ⟨rfl, h1, hu⟩
        have HL7 := Lib.hid h1
        clear h1 hu HL6
        go_wp2_with fail
        refine (bytes_L ((stable_dev d _).star stable_emp) hq HL7.out (by omega) n (by omega) 3 (by omega)).mono ?_
        rintro e w8 ⟨v, rfl, hv, h1, hu⟩
        have HL9 := Lib.hid h1
        have Hv := Lib.hid hv
        have Hlen := Lib.hid (tbytes_len xs (j + 1 + 1 + 1) n 3)
        clear h1 hu HL7 hv
        generalize tbytes xs (j + 1 + 1 + 1) n 3 = bs at *
        obtain ⟨A9, c9, rfl, _⟩ := Hv.out
        go_wp2_with fail
        refine (create_L ((hT _).star stable_emp) (LS.rot HL9.out) (st' := (st.create k bs).1) (r := (st.create k bs).2) rfl (HF.out.ok.fuel (by omega)) Hv.out (by have := hvs.out.2; omega) (by have := Hlen.out; omega) (HF.out.ok.bnow.get _) (by have := HF.out.ok.bnow.n; omega)).mono ?_
        rintro e w6 ⟨rfl, h1, hu⟩
        have hpair := HF.out.create (k := k) (b := bs) hvs.out.1 (by have := Hlen.out; omega) (by omega)
        have Hp := Lib.hid hpair
        have HL8 := Lib.hid (LS.rot h1)
        clear h1 hu hpair HL9 HF
        by_cases hin : i < m + 1
        · have hr : (st.create k bs).2 = 0 := by rw [Hp.out.2.1, if_pos hin]
          have hdn : (st.create k bs).1.down = false := by rw [Hp.out.2.2]; simp; omega
          have HP := Lib.hid Hp.out.1
          rw [hr]
          clear hr Hp
          generalize (st.create k bs).1 = st2 at *
          have Hdn := Lib.hid hdn
          clear hdn
          go_wp2_with fail
          refine (down_L (LS.rot HL8.out) Hdn.out).mono ?_
          rintro e _ ⟨rfl, rfl⟩
          go_wp2
          refine ⟨⟨i + 1, st2, j + 1 + 1 + 1 + n, by omega, by omega, by go_num, HL8.out, HP.out, by omega⟩, by simp [intOf]; omega⟩
        · have hr : (st.create k bs).2 = 303 := by rw [Hp.out.2.1, if_neg hin]
          have hdn : (st.create k bs).1.down = true := by rw [Hp.out.2.2]; simp; omega
          have HP := Lib.hid Hp.out.1
          rw [hr]
          clear hr Hp
          generalize (st.create k bs).1 = st2 at *
          have Hdn := Lib.hid hdn
          clear hdn
          go_wp2_with fail
          refine (down_L (LS.rot HL8.out) Hdn.out).mono ?_
          rintro e _ ⟨rfl, rfl⟩
          go_wp2
          refine ⟨⟨i + 1, st2, j + 1 + 1 + 1 + n, by omega, by omega, by go_num, HL8.out, HP.out, by omega⟩, by simp [intOf]; omega⟩
    · have hie : i = 12 := by omega
      subst hie
      have hlast := HF.out.last (by omega)
      have Hla := Lib.hid hlast
      clear hlast
      go_wp2_with fail
      refine (restart_L ((hT _).star stable_emp) (LS.rot HL.out) (st' := st.restart) rfl).mono ?_
      rintro e w6 ⟨rfl, h1, hu⟩
      have HL6 := Lib.hid h1
      clear h1 hu HL
      generalize st.restart = st6 at *
      go_wp2_with fail
      refine (down_L HL6.out Hla.out.1).mono ?_
      rintro e _ ⟨rfl, rfl⟩
      go_wp2_with fail
      refine (pending_L HL6.out (n := 0) (by rw [Hla.out.2.1]; rfl)).mono ?_
      rintro e _ ⟨rfl, rfl⟩
      go_wp2_with fail
      refine (sync_L ((hT _).star stable_emp) HL6.out (sync_zero Hla.out.2.2.1 Hla.out.1) (Hla.out.2.2.2.fuel (by rw [Hla.out.2.1]; simp)) Hla.out.2.2.2.fits).mono ?_
      rintro e w7 ⟨rfl, h1, hu⟩
      have HL7 := Lib.hid h1
      clear h1 hu HL6
      go_wp2
      go_ret
      exact ⟨rfl, HL7.out.end hB⟩
end Go.Proofs.Ytjcjgeneehhgbaa.Dev
