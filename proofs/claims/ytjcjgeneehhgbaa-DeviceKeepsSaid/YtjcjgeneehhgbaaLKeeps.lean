/-
  DeviceKeeps, walked.
-/
import Derived.Test.YtjcjgeneehhgbaaSepL
import Derived.Test.YtjcjgeneehhgbaaLTorn
namespace Go.Proofs.Ytjcjgeneehhgbaa.Dev
open Go.RowKit Go.Proofs
set_option linter.unusedVariables false
set_option linter.unusedSectionVars false
set_option linter.unusedSimpArgs false
variable [Bs]

theorem app_get {z : ByteArray} {l : FS} {o : Op} (h1 : o.name ≠ z) (h2 : o.to ≠ z) : (app l o).get z = l.get z := by
  unfold app
  split
  · exact FS.get_put_ne (Ne.symm h1) _ l
  · split
    · exact FS.get_put_ne (Ne.symm h1) _ l
    · split
      · rw [FS.get_put_ne (Ne.symm h2), FS.get_del_ne (Ne.symm h1)]
      · exact FS.get_del_ne (Ne.symm h1) l
theorem apps_get {z : ByteArray} : ∀ {os : List Op} {l : FS}, (∀ o ∈ os, o.name ≠ z ∧ o.to ≠ z) → (apps l os).get z = l.get z
  | [], l, _ => rfl
  | o :: os, l, h => by
    have h1 := h o List.mem_cons_self
    show (apps (app l o) os).get z = l.get z
    rw [apps_get (fun x hx => h x (List.mem_cons_of_mem _ hx)), app_get h1.1 h1.2]
/-- a device that has no fuse and no pending operation on z, and z durably -/
structure ZSt (z : ByteArray) (b : List Int) (d : DS) : Prop where
  ok : d.Ok
  fuse : d.fuse = 0
  down : d.down = false
  get : d.dur.get z = some b
  pend : ∀ o ∈ d.pend, o.name ≠ z ∧ o.to ≠ z
theorem perform_parts {d : DS} (h : d.fuse = 0) (o : Op) : (d.perform o).1 = { d with now := app d.now o, pend := d.pend ++ [o] } := by rw [perform_zero h]
theorem ZSt.perform {z : ByteArray} {b : List Int} {d : DS} (h : ZSt z b d) {o : Op} (hok : (d.perform o).1.Ok) (h1 : o.name ≠ z) (h2 : o.to ≠ z) : ZSt z b (d.perform o).1 := by
  refine ⟨hok, ?_, ?_, ?_, ?_⟩
  · rw [perform_parts h.fuse]; exact h.fuse
  · rw [perform_parts h.fuse]; exact h.down
  · rw [perform_parts h.fuse]; exact h.get
  · rw [perform_parts h.fuse]
    intro x hx
    rcases List.mem_append.1 hx with hx | hx
    · exact h.pend x hx
    · rw [List.mem_singleton.1 hx]; exact ⟨h1, h2⟩
theorem ZSt.doOp {b : List Int} {d : DS} (h : ZSt ⟨#[122]⟩ b d) {o : Op} (ho : OpT o) : ZSt ⟨#[122]⟩ b (d.doOp o).1 := by
  have hok := h.ok.doOp o
  have he : (⟨#[]⟩ : ByteArray) ≠ ⟨#[122]⟩ := by decide
  revert hok
  unfold DS.doOp
  split
  · unfold DS.create; split
    · split
      · exact fun _ => h
      · exact fun hok => h.perform hok ho.name he
    · exact fun _ => h
  · split
    · unfold DS.append; split
      · split
        · exact fun _ => h
        · exact fun hok => h.perform hok ho.name he
      · exact fun _ => h
    · split
      · unfold DS.rename; split
        · exact fun hok => h.perform hok ho.name ho.to
        · exact fun _ => h
      · unfold DS.delete; split
        · exact fun hok => h.perform hok ho.name he
        · exact fun _ => h
theorem ZSt.kept {b : List Int} {d : DS} {z : ByteArray} (h : ZSt z b d) (keep torn : Int) : ∀ o ∈ d.kept keep torn, o.name ≠ z ∧ o.to ≠ z := by
  intro o ho
  unfold DS.kept at ho
  rcases List.mem_append.1 ho with ho | ho
  · exact h.pend o (List.mem_of_mem_take ho)
  · cases hg : d.pend[d.keep keep]? with
    | none => rw [hg] at ho; cases ho
    | some x =>
      rw [hg] at ho
      simp only at ho
      split at ho
      · rw [List.mem_singleton.1 ho]
        exact h.pend x (List.mem_of_getElem? hg)
      · cases ho
/-- behind a loss and a restart z reads as it did -/
theorem ZSt.lost {b : List Int} {d : DS} (h : ZSt ⟨#[122]⟩ b d) (keep torn : Int) : ((d.lose keep torn).restart.read ⟨#[122]⟩) = (b, 0) ∧ (d.lose keep torn).restart.pend = [] := by
  have hg : (apps d.dur (d.kept keep torn)).get ⟨#[122]⟩ = some b := by rw [apps_get (h.kept keep torn), h.get]
  have hr : (d.lose keep torn).restart = ⟨apps d.dur (d.kept keep torn), apps d.dur (d.kept keep torn), [], 0, false⟩ := rfl
  rw [hr]
  refine ⟨?_, rfl⟩
  have hc : chk false true (apps d.dur (d.kept keep torn)) [⟨#[122]⟩] = 0 := by
    unfold chk
    have hv : ([(⟨#[122]⟩ : ByteArray)].all valid) = true := by kernel_rfl
    simp only [hv, List.headD_cons, hg]
    rfl
  unfold DS.read
  simp only [hc, if_true, hg]
  rfl
theorem keeps_s1 {b : List Int} (hb : b.length ≤ 4194304) : DS.new.create ⟨#[122]⟩ b = (⟨[], [(⟨#[122]⟩, b)], [⟨1, ⟨#[122]⟩, ⟨#[]⟩, b⟩], 0, false⟩, 0) := by
  rw [create_ok (by kernel_rfl) hb (leb (by kernel_rfl)), perform_zero rfl]
  kernel_rfl
theorem keeps_s1n {b : List Int} (hb : 4194304 < b.length) : DS.new.create ⟨#[122]⟩ b = (DS.new, 302) := by
  have hc : chk DS.new.down false DS.new.now [⟨#[122]⟩] = 0 := by kernel_rfl
  unfold DS.create
  rw [hc]
  simp [hb]
theorem keeps_s2 (b : List Int) : DS.sync ⟨[], [(⟨#[122]⟩, b)], [⟨1, ⟨#[122]⟩, ⟨#[]⟩, b⟩], 0, false⟩ = (⟨[(⟨#[122]⟩, b)], [(⟨#[122]⟩, b)], [], 0, false⟩, 0) := by
  rw [sync_zero rfl rfl]
  kernel_rfl
theorem keeps_z {b : List Int} (hb : b.length ≤ 4194304) : ZSt ⟨#[122]⟩ b ⟨[(⟨#[122]⟩, b)], [(⟨#[122]⟩, b)], [], 0, false⟩ where
  ok := by
    have h1 := DS.ok_new.create ⟨#[122]⟩ b
    rw [keeps_s1 hb] at h1
    have h2 := h1.sync
    rw [keeps_s2] at h2
    exact h2
  fuse := rfl
  down := rfl
  get := by kernel_rfl
  pend := fun o ho => by cases ho

set_option maxHeartbeats 4000000 in
set_option maxRecDepth 100000 in
theorem keeps_walk {w : World} (hB : Bs.n = w.heap.size) {lv vb : Value} {xs b : List Int} (hl : RdI w lv xs) (hvb : Rd w vb b) :
    Calls Try.prog 6 #[lv, vb] w fun e w' => e = .returned (.bool true) ∧ Below w.heap.size w w' := by
  have Hvb := Lib.hid hvb
  have Hl := Lib.hid hl
  obtain ⟨A0, c0, rfl, _⟩ := hl
  obtain ⟨A1, c1, rfl, hb1, hb2, _⟩ := hvb
  have hq : Bs.n ≤ w.heap.size := Nat.le_of_eq hB
  have hT := fun i => stable_tape w w.heap.size xs i
  have hS := fun d st i => (stable_dev d st).star ((hT i).star stable_emp)
  go_enter Try.func6, Try.ntmps6
  go_wp2_with fail
  have h0 := tape_L hB Hl.out
  refine (new_L ((hT 0).star stable_emp) hq h0.1).mono ?_
  rintro e w1 ⟨d, rfl, h1, hu1⟩
  have HL1 := Lib.hid h1
  have HU1 := Lib.hid (h0.2.trans hu1)
  clear h0 h1 hu1
  go_wp2_with fail
  refine (known_L (hS _ _ _) hq HL1.out).mono ?_
  rintro e w2 ⟨rfl, h1, hu⟩
  have HL2 := Lib.hid h1
  have HU2 := Lib.hid (HU1.out.trans hu)
  clear h1 hu HL1 HU1
  by_cases hbig : 4194304 < b.length
  · have hd : decide ((b.length : Int) ≤ 4194304) = false := by simp; omega
    have hd2 : decide ((4194304 : Int) < (b.length : Int)) = true := by simp; omega
    go_wp2_with fail
    refine (create_L ((hT 0).star stable_emp) HL2.out (keeps_s1n hbig) (fuel0 (leb (by kernel_rfl))) (HU2.out _ _ Hvb.out) (leb (by kernel_rfl)) (by omega) (leb (by kernel_rfl)) (leb (by kernel_rfl))).mono ?_
    rintro e w3 ⟨rfl, h1, hu⟩
    have HL3 := Lib.hid h1
    clear h1 hu HL2 HU2
    go_wp2
    go_ret
    exact ⟨rfl, HL3.out.end hB⟩
  · have hd : decide ((b.length : Int) ≤ 4194304) = true := by simp; omega
    have hd2 : decide ((4194304 : Int) < (b.length : Int)) = false := by simp; omega
    have hbl : b.length ≤ 4194304 := by omega
    clear hbig
    go_wp2_with fail
    refine (create_L ((hT 0).star stable_emp) HL2.out (keeps_s1 hbl) (fuel0 (leb (by kernel_rfl))) (HU2.out _ _ Hvb.out) (leb (by kernel_rfl)) (by omega) (leb (by kernel_rfl)) (leb (by kernel_rfl))).mono ?_
    rintro e w3 ⟨rfl, h1, hu⟩
    have HL3 := Lib.hid h1
    have HU3 := Lib.hid (HU2.out.trans hu)
    clear h1 hu HL2 HU2
    go_wp2_with fail
    refine (sync_L ((hT 0).star stable_emp) HL3.out (keeps_s2 b) (fuel0 (leb (by kernel_rfl))) (Fits.cons (.inl rfl) (by show ([] : List Int).length + b.length ≤ _; simp only [List.length_nil]; omega) (Fits.nil _))).mono ?_
    rintro e w4 ⟨rfl, h1, hu⟩
    have HL4 := Lib.hid (LS.rot h1)
    have HU4 := Lib.hid (HU3.out.trans hu)
    clear h1 hu HL3 HU3
    have hS2 := fun st i => (hT i).star ((stable_dev d st).star stable_emp)
    go_wp2_with fail
    refine (next_L ((stable_dev d _).star stable_emp) hq HL4.out (by omega) 9 (by omega)).mono ?_
    rintro e w5 ⟨rfl, h1, hu⟩
    have HL5 := Lib.hid h1
    have HU5 := Lib.hid (HU4.out.trans hu)
    clear h1 hu HL4 HU4
    obtain ⟨n, hny⟩ : ∃ n : Nat, tnext xs 0 9 = n := ⟨(tnext xs 0 9).toNat, by have := tnext_range xs 0 (show (1 : Int) ≤ 9 by omega); omega⟩
    have hn9 : n ≤ 8 := by have := tnext_range xs 0 (show (1 : Int) ≤ 9 by omega); omega
    rw [hny]
    clear hny
    go_wp2
    go_loopw [7] (fun k wr => ∃ (q : Nat) (st : DS) (i : Nat), q ≤ 8 ∧ k = .int .i64 q ∧ LS w (star (TapeO w w.heap.size xs i) (star (DevO d st) emp)) wr ∧ U8 w wr ∧ ZSt ⟨#[122]⟩ b st ∧ st.pend.length + q ≤ 100 ∧ i + 100 * q ≤ 10000) (fun k _ => (intOf k).toNat)
    case atStart => exact ⟨n, _, 1, hn9, rfl, HL5.out, HU5.out, keeps_z hbl, by show 0 + n ≤ 100; omega, by omega⟩
    case round =>
      obtain ⟨q, st, i, hq8, rfl, hL, hU, hZ, hp, hi⟩ := hrel
      have HL := Lib.hid hL
      have HU := Lib.hid hU
      have HZ := Lib.hid hZ
      clear hL hU hZ HL5 HU5
      by_cases h0 : 0 < q
      · go_wp2_with fail
        refine (operation_L ((stable_dev d _).star stable_emp) hq HL.out (by omega)).mono ?_
        rintro e w6 ⟨o, v, i', rfl, hv, ho, hi1, hi2, h1, hu⟩
        have HL6 := Lib.hid (LS.rot h1)
        have HU6 := Lib.hid (HU.out.trans hu)
        have Hv := Lib.hid hv
        have Ho := Lib.hid ho
        clear h1 hu hv ho HL HU
        go_wp2_with fail
        refine (ldo_L ((hT _).star stable_emp) HL6.out (st' := (st.doOp o).1) (r := (st.doOp o).2) rfl HZ.out.ok (by omega) Ho.out.l Hv.out).mono ?_
        rintro e w7 ⟨rfl, h1, hu⟩
        have HL7 := Lib.hid (LS.rot h1)
        have HU7 := Lib.hid (HU6.out.trans hu)
        have HZ7 := Lib.hid (HZ.out.doOp Ho.out)
        have hpl := DS.doOp_len st o
        clear h1 hu HL6 HU6
        generalize (st.doOp o).2 = r at *
        generalize (st.doOp o).1 = st2 at *
        go_wp2
        refine ⟨⟨q - 1, st2, i', by omega, by go_num, HL7.out, HU7.out, HZ7.out, by omega, by omega⟩, by simp [intOf]; omega⟩
      · have hq0 : q = 0 := by omega
        subst hq0
        go_wp2_with fail
        refine (loss_L ((stable_dev d _).star stable_emp) hq HL.out (by omega)).mono ?_
        rintro e w6 ⟨rfl, h1, hu⟩
        have HL6 := Lib.hid (LS.rot h1)
        have HU6 := Lib.hid (HU.out.trans hu)
        clear h1 hu HL HU
        generalize tnext xs i 8 - 1 = kp at *
        generalize tnext xs (i + 1) 8 - 1 = tn at *
        go_wp2_with fail
        refine (lose_L ((hT _).star stable_emp) HL6.out (st' := st.lose kp tn) rfl hq (by omega) (HZ.out.ok.fits_kept kp tn)).mono ?_
        rintro e w7 ⟨rfl, h1, hu⟩
        have HL7 := Lib.hid h1
        have HU7 := Lib.hid (HU6.out.trans hu)
        clear h1 hu HL6 HU6
        go_wp2_with fail
        refine (restart_L ((hT _).star stable_emp) HL7.out (st' := (st.lose kp tn).restart) rfl).mono ?_
        rintro e w8 ⟨rfl, h1, hu⟩
        have HL8 := Lib.hid h1
        have HU8 := Lib.hid (HU7.out.trans hu)
        have Hz := Lib.hid (HZ.out.lost kp tn)
        have Hok := Lib.hid ((HZ.out.ok.lose kp tn).restart)
        clear h1 hu HL7 HU7
        generalize (st.lose kp tn).restart = st8 at *
        go_wp2_with fail
        refine (read_L ((hT _).star stable_emp) HL8.out Hz.out.1 (leb (by kernel_rfl)) (Hok.out.bnow.get _)).mono ?_
        rintro e w9 ⟨v2, rfl, hv2, h1, hu⟩
        have HL9 := Lib.hid h1
        have s1 := run_string hv2
        have s2 := run_string (hu _ _ (HU8.out _ _ Hvb.out))
        clear h1 hu HL8 HU8 hv2
        go_wp2_with fail
        refine (pending_L HL9.out (n := 0) (by rw [Hz.out.2]; rfl)).mono ?_
        rintro e _ ⟨rfl, rfl⟩
        go_wp2
        go_ret
        exact ⟨rfl, HL9.out.end hB⟩
end Go.Proofs.Ytjcjgeneehhgbaa.Dev
