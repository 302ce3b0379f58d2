/-
  Chapter 32: the reference's Name (of chapter 31) and Save.
-/
import Derived.Test.YtalnhdeckdakfaaCkS
namespace Go.Proofs.Ytalnhdeckdakfaa.Dev
open Go.RowKit Go.Proofs Co
set_option linter.unusedVariables false
set_option linter.unusedSectionVars false
set_option linter.unusedSimpArgs false
variable [Bs]

set_option maxHeartbeats 1000000 in
theorem rName31_calls (s : ByteArray) (w : World) (hs : s.size ≤ 9223372036854775807) :
    Calls Try.prog 24 #[.string s] w fun e w' => e = .returned (.bool (vname s)) ∧ w = w' := by
  by_cases h0 : s.size < 1
  · have hv : vname s = false := by unfold vname; simp; omega
    rw [hv]
    have hd : decide ((s.size : Int) < 1) = true := by simp; omega
    go_enter Try.func24, Try.ntmps24
    go_wp2
    go_ret
    exact ⟨rfl, rfl⟩
  by_cases h1 : 40 < s.size
  · have hv : vname s = false := by unfold vname; simp; omega
    rw [hv]
    have hd : decide ((s.size : Int) < 1) = false := by simp; omega
    have hd1 : decide ((40 : Int) < (s.size : Int)) = true := by simp; omega
    go_enter Try.func24, Try.ntmps24
    go_wp2
    go_ret
    exact ⟨rfl, rfl⟩
  have hd : decide ((s.size : Int) < 1) = false := by simp; omega
  have hd1 : decide ((40 : Int) < (s.size : Int)) = false := by simp; omega
  have hv : vname s = s.data.toList.all okn := by unfold vname; simp; omega
  rw [hv]
  clear hv
  generalize hr : s.data.toList.all okn = r
  have Hr := Lib.hid hr
  clear hr
  have hdl := data_len s
  go_enter Try.func24, Try.ntmps24
  go_wp2
  go_loop [3] (fun i => ∃ k : Nat, k ≤ s.size ∧ i = .int .i64 k ∧ (s.data.toList.take k).all okn = true) (fun i => s.size - (intOf i).toNat)
  case atStart => exact ⟨0, Nat.zero_le _, rfl, by simp⟩
  case round =>
    obtain ⟨k, hk, rfl, hall⟩ := hrel
    have Hall := Lib.hid hall
    clear hall
    by_cases hlt : k < s.size
    · have Hts := Lib.hid (take_all_succn (l := s.data.toList) (k := k) (by omega))
      have Hok := Lib.hid (okn_iff (s.data.toList.getD k 0))
      have hix : s.data.toList.getD k 0 = s[k] := by
        rw [List.getD_eq_getElem?_getD, List.getElem?_eq_getElem (by omega)]
        simp only [Option.getD_some, Array.getElem_toList]
        rfl
      rw [hix] at Hts Hok
      by_cases hok : okn s[k] = true
      · have h := Hok.out.1 hok
        have hcl := s[k].toNat_lt
        clear Hok hix
        have Hk2 := Lib.hid hok
        clear hok
        go_wp2
        all_goals try (exfalso; simp at *; omega)
        all_goals (refine ⟨⟨k + 1, by omega, by go_num, by rw [Hts.out, Hall.out, Hk2.out]; rfl⟩, by simp [intOf]; omega⟩)
      · have h : ¬ _ := fun h => hok (Hok.out.2 h)
        have hcl := s[k].toNat_lt
        clear Hok hix
        have hok' : okn s[k] = false := by simpa using hok
        have Hk2 := Lib.hid hok'
        clear hok hok'
        have hfin : r = false := by
          have h2 := Hts.out
          rw [Hk2.out, Bool.and_false] at h2
          rw [← Hr.out]
          exact all_false_of_take h2
        have Hfin := Lib.hid hfin
        clear hfin
        go_wp2
        all_goals try (exfalso; simp at *; omega)
        all_goals go_ret
        all_goals exact ⟨by rw [Hfin.out]; rfl, rfl⟩
    · have hkk : k = s.size := by omega
      have hfin : r = true := by
        have := Hall.out
        rw [List.take_of_length_le (by omega), Hr.out] at this
        exact this
      have Hfin := Lib.hid hfin
      clear hfin hkk
      go_wp2
      go_ret
      exact ⟨by rw [Hfin.out]; rfl, rfl⟩

def refSave (p : Int) (xs : List Int) (is : Bool) (k : ByteArray) (pos : Int) (b : List Int) : Int × List Int × Bool × Int :=
  if vname k = false then (p, xs, is, 323)
  else if pos < 0 ∨ (is = true ∧ pos < p) then (p, xs, is, 321)
  else if 2097152 < b.length then (p, xs, is, 320)
  else (pos, b, true, 0)

set_option maxHeartbeats 4000000 in
set_option maxRecDepth 100000 in
theorem rSave32_calls {w : World} {v vb : Value} {xs b : List Int} (h : Rd w v xs) (hb : Rd w vb b) (p pos : Int) (is : Bool) (k : ByteArray) (hk : k.size ≤ 9223372036854775807) (hl : b.length ≤ 2097152) (hB : Bs.n ≤ w.heap.size) :
    Calls Try.prog 15 #[.agg #[.int .i64 p, v, .bool is], .string k, .int .i64 pos, vb] w fun e w' => ∃ A c, e = .returned (.tuple #[.agg #[.int .i64 (refSave p xs is k pos b).1, .slice A (refSave p xs is k pos b).2.1.length c, .bool (refSave p xs is k pos b).2.2.1], .int .i64 (refSave p xs is k pos b).2.2.2]) ∧
      Rd w' (.slice A (refSave p xs is k pos b).2.1.length c) (refSave p xs is k pos b).2.1 ∧ Below w.heap.size w w' := by
  have hn : Below w.heap.size w ((w.alloc (.cells #[.int .i64 p, v, .bool is] 34)).alloc (.cells #[.int .i64 0, .slice none 0 0, .bool false] 34)) := ((Below.refl _ _).alloc (Nat.le_refl _) _).alloc (by simp) _
  have HR := Lib.hid h
  have HRb := Lib.hid hb
  obtain ⟨A, c, rfl, _⟩ := h
  obtain ⟨A2, c2, rfl, _⟩ := hb
  have HN := Lib.hid hn
  clear hn
  have hn2 : Below w.heap.size w ((w.alloc (.cells #[.int .i64 p, .slice A xs.length c, .bool is] 34)).alloc (.cells #[.int .i64 p, .slice A xs.length c, .bool is] 34)) := ((Below.refl _ _).alloc (Nat.le_refl _) _).alloc (by simp) _
  have HN2 := Lib.hid hn2
  have HB2 := Lib.hid (U8.below hn2)
  clear hn2
  have hres : Try.f15.results = #[.cell 8 34, .tmp 9] := by kernel_rfl
  have HRES := Lib.hid hres
  have HBs := Lib.hid hB
  clear hB
  clear hres
  cases hv : vname k with
  | false =>
    have he : refSave p xs is k pos b = (p, xs, is, 323) := by rw [refSave, if_pos hv]
    rw [he]
    go_enter Try.func15, Try.ntmps15
    go_wp2_with fail
    refine (rName31_calls k _ hk).mono ?_
    rw [hv]
    rintro e w1 ⟨rfl, rfl⟩
    go_wp2
    refine bodyPost_ret (v := .tuple #[.agg #[.int .i64 p, .slice A xs.length c, .bool is], .int .i64 323]) ?_ rfl ⟨A, c, rfl, HB2.out _ _ HR.out, HN2.out⟩
    have hres := HRES.out
    simp only [results, hres]
    go_simp
  | true =>
    by_cases h0 : pos < 0
    · have he : refSave p xs is k pos b = (p, xs, is, 321) := by rw [refSave, if_neg (by rw [hv]; simp), if_pos (.inl h0)]
      rw [he]
      go_enter Try.func15, Try.ntmps15
      go_wp2_with fail
      refine (rName31_calls k _ hk).mono ?_
      rw [hv]
      rintro e w1 ⟨rfl, rfl⟩
      go_wp2
      refine bodyPost_ret (v := .tuple #[.agg #[.int .i64 p, .slice A xs.length c, .bool is], .int .i64 321]) ?_ rfl ⟨A, c, rfl, HB2.out _ _ HR.out, HN2.out⟩
      have hres := HRES.out
      simp only [results, hres]
      go_simp
    by_cases h1 : is = true ∧ pos < p
    · have he : refSave p xs is k pos b = (p, xs, is, 321) := by rw [refSave, if_neg (by rw [hv]; simp), if_pos (.inr h1)]
      rw [he]
      obtain ⟨rfl, h1⟩ := h1
      go_enter Try.func15, Try.ntmps15
      go_wp2_with fail
      refine (rName31_calls k _ hk).mono ?_
      rw [hv]
      rintro e w1 ⟨rfl, rfl⟩
      go_wp2
      refine bodyPost_ret (v := .tuple #[.agg #[.int .i64 p, .slice A xs.length c, .bool true], .int .i64 321]) ?_ rfl ⟨A, c, rfl, HB2.out _ _ HR.out, HN2.out⟩
      have hres := HRES.out
      simp only [results, hres]
      go_simp
    have he : refSave p xs is k pos b = (pos, b, true, 0) := by rw [refSave, if_neg (by rw [hv]; simp), if_neg (by rintro (h | h); exact h0 h; exact h1 h), if_neg (by omega)]
    rw [he]
    have hd : decide ((2097152 : Int) < (b.length : Int)) = false := decide_eq_false (by omega)
    have HW : Hid (is = false ∨ ¬ pos < p) := Lib.hid (by cases is <;> simp_all)
    clear h1
    have hcell := heap_alloc_new (w.alloc (.cells #[.int .i64 p, .slice A xs.length c, .bool is] 34)) (.cells #[.int .i64 0, .slice none 0 0, .bool false] 34)
    rw [show (w.alloc (.cells #[.int .i64 p, .slice A xs.length c, .bool is] 34)).heap.size = w.heap.size + 1 by simp] at hcell
    have HC := Lib.hid hcell
    have HRb2 := Lib.hid (U8.below HN.out _ _ HRb.out)
    clear hcell
    have hbox := blk_below (heap_alloc_new w (.cells #[.int .i64 p, .slice A xs.length c, .bool is] 34)) (lit_below _ _ (Nat.le_refl _) (Obj.cells #[.int .i64 0, .slice none 0 0, .bool false] 34))
    have x0 := (blk_cell hbox 0).trans (show _ = some (Value.int .i64 p) from rfl)
    have x1 := (blk_cell hbox 1).trans (show _ = some (Value.slice A xs.length c) from rfl)
    have x2 := (blk_cell hbox 2).trans (show _ = some (Value.bool is) from rfl)
    clear hbox
    rcases HW.out with rfl | hlt
    · go_enter Try.func15, Try.ntmps15
      go_wp2_with fail
      refine (rName31_calls k _ hk).mono ?_
      rw [hv]
      rintro e w1 ⟨rfl, rfl⟩
      generalize hW0 : (w.alloc (.cells #[.int .i64 p, .slice A xs.length c, .bool false] 34)).alloc (.cells #[.int .i64 0, .slice none 0 0, .bool false] 34) = W0 at *
      have hg0 : w.heap.size + 1 ≠ w.heap.size := by omega
      go_wp2_with (at_builtin; refine wpList_append_rd W0.heap.size rfl _ _ 32 5 rfl Try.underlying32 info5 _ _ [] b rfl rfl (own_nil _ _ _ _) HRb2.out (Nat.le_refl _) (by simp only [List.length_nil]; omega) ?_; intro v5 w5 ho5 hg5; rw [List.nil_append] at ho5; have HO5 := Lib.hid ho5; have HB5 := Lib.hid ((Below.refl _ _).grown hg5 (Nat.le_refl _) (fun k hk => by cases hk)); obtain ⟨A5, c5, hf⟩ := own_form ho5; subst hf; have hm := blk_below HC.out HB5.out; have m0 := (blk_cell hm 0).trans (show _ = some (Value.int .i64 0) from rfl); have m1 := (blk_cell hm 1).trans (show _ = some (Value.slice none 0 0) from rfl); have m2 := (blk_cell hm 2).trans (show _ = some (Value.bool false) from rfl); have n0 := blk_frozen hm 0; have n1 := blk_frozen hm 1; have n2 := blk_frozen hm 2; clear ho5 hg5)
      have hb6 : Below w.heap.size w (((w5.setCell ⟨w.heap.size + 1, 0, none⟩ (.int .i64 pos)).setCell ⟨w.heap.size + 1, 1, none⟩ (.slice A5 b.length c5)).setCell ⟨w.heap.size + 1, 2, none⟩ (.bool true)) := (((HN.out.trans (HB5.out.mono HN.out.size)).setCell (p := ⟨w.heap.size + 1, 0, none⟩) (by simp) _).setCell (p := ⟨w.heap.size + 1, 1, none⟩) (by simp) _).setCell (p := ⟨w.heap.size + 1, 2, none⟩) (by simp) _
      have hr6 : Rd (((w5.setCell ⟨w.heap.size + 1, 0, none⟩ (.int .i64 pos)).setCell ⟨w.heap.size + 1, 1, none⟩ (.slice A5 b.length c5)).setCell ⟨w.heap.size + 1, 2, none⟩ (.bool true)) (.slice A5 b.length c5) b := by
        have hm := blk_below HC.out HB5.out
        have hF : Fr (· = w.heap.size + 1) w5 _ := ((Fr.setCell (S := (· = w.heap.size + 1)) (w := w5) (p := ⟨w.heap.size + 1, 0, none⟩) rfl (.int .i64 pos)).trans (Fr.setCell (S := (· = w.heap.size + 1)) (p := ⟨w.heap.size + 1, 1, none⟩) rfl (.slice A5 b.length c5))).trans (Fr.setCell (S := (· = w.heap.size + 1)) (p := ⟨w.heap.size + 1, 2, none⟩) rfl (.bool true))
        refine hF.u8 (fun i hi => ?_) _ _ (Rd.own HO5.out)
        subst hi
        rintro (h | ⟨cs, fr, h⟩)
        · have := HBs.out; omega
        · rw [hm] at h; injection h with h; injection h with _ h; exact absurd h (by decide)
      refine bodyPost_ret (v := .tuple #[.agg #[.int .i64 pos, .slice A5 b.length c5, .bool true], .int .i64 0]) ?_ rfl ⟨A5, c5, rfl, hr6, hb6⟩
      have hres := HRES.out
      simp only [results, hres]
      go_simp
    · cases is with
      | false =>
        go_enter Try.func15, Try.ntmps15
        go_wp2_with fail
        refine (rName31_calls k _ hk).mono ?_
        rw [hv]
        rintro e w1 ⟨rfl, rfl⟩
        generalize hW0 : (w.alloc (.cells #[.int .i64 p, .slice A xs.length c, .bool false] 34)).alloc (.cells #[.int .i64 0, .slice none 0 0, .bool false] 34) = W0 at *
        have hg0 : w.heap.size + 1 ≠ w.heap.size := by omega
        go_wp2_with (at_builtin; refine wpList_append_rd W0.heap.size rfl _ _ 32 5 rfl Try.underlying32 info5 _ _ [] b rfl rfl (own_nil _ _ _ _) HRb2.out (Nat.le_refl _) (by simp only [List.length_nil]; omega) ?_; intro v5 w5 ho5 hg5; rw [List.nil_append] at ho5; have HO5 := Lib.hid ho5; have HB5 := Lib.hid ((Below.refl _ _).grown hg5 (Nat.le_refl _) (fun k hk => by cases hk)); obtain ⟨A5, c5, hf⟩ := own_form ho5; subst hf; have hm := blk_below HC.out HB5.out; have m0 := (blk_cell hm 0).trans (show _ = some (Value.int .i64 0) from rfl); have m1 := (blk_cell hm 1).trans (show _ = some (Value.slice none 0 0) from rfl); have m2 := (blk_cell hm 2).trans (show _ = some (Value.bool false) from rfl); have n0 := blk_frozen hm 0; have n1 := blk_frozen hm 1; have n2 := blk_frozen hm 2; clear ho5 hg5)
        have hb6 : Below w.heap.size w (((w5.setCell ⟨w.heap.size + 1, 0, none⟩ (.int .i64 pos)).setCell ⟨w.heap.size + 1, 1, none⟩ (.slice A5 b.length c5)).setCell ⟨w.heap.size + 1, 2, none⟩ (.bool true)) := (((HN.out.trans (HB5.out.mono HN.out.size)).setCell (p := ⟨w.heap.size + 1, 0, none⟩) (by simp) _).setCell (p := ⟨w.heap.size + 1, 1, none⟩) (by simp) _).setCell (p := ⟨w.heap.size + 1, 2, none⟩) (by simp) _
        have hr6 : Rd (((w5.setCell ⟨w.heap.size + 1, 0, none⟩ (.int .i64 pos)).setCell ⟨w.heap.size + 1, 1, none⟩ (.slice A5 b.length c5)).setCell ⟨w.heap.size + 1, 2, none⟩ (.bool true)) (.slice A5 b.length c5) b := by
          have hm := blk_below HC.out HB5.out
          have hF : Fr (· = w.heap.size + 1) w5 _ := ((Fr.setCell (S := (· = w.heap.size + 1)) (w := w5) (p := ⟨w.heap.size + 1, 0, none⟩) rfl (.int .i64 pos)).trans (Fr.setCell (S := (· = w.heap.size + 1)) (p := ⟨w.heap.size + 1, 1, none⟩) rfl (.slice A5 b.length c5))).trans (Fr.setCell (S := (· = w.heap.size + 1)) (p := ⟨w.heap.size + 1, 2, none⟩) rfl (.bool true))
          refine hF.u8 (fun i hi => ?_) _ _ (Rd.own HO5.out)
          subst hi
          rintro (h | ⟨cs, fr, h⟩)
          · have := HBs.out; omega
          · rw [hm] at h; injection h with h; injection h with _ h; exact absurd h (by decide)
        refine bodyPost_ret (v := .tuple #[.agg #[.int .i64 pos, .slice A5 b.length c5, .bool true], .int .i64 0]) ?_ rfl ⟨A5, c5, rfl, hr6, hb6⟩
        have hres := HRES.out
        simp only [results, hres]
        go_simp
      | true =>
        have hdl : decide (pos < p) = false := decide_eq_false hlt
        go_enter Try.func15, Try.ntmps15
        go_wp2_with fail
        refine (rName31_calls k _ hk).mono ?_
        rw [hv]
        rintro e w1 ⟨rfl, rfl⟩
        generalize hW0 : (w.alloc (.cells #[.int .i64 p, .slice A xs.length c, .bool true] 34)).alloc (.cells #[.int .i64 0, .slice none 0 0, .bool false] 34) = W0 at *
        have hg0 : w.heap.size + 1 ≠ w.heap.size := by omega
        go_wp2_with (at_builtin; refine wpList_append_rd W0.heap.size rfl _ _ 32 5 rfl Try.underlying32 info5 _ _ [] b rfl rfl (own_nil _ _ _ _) HRb2.out (Nat.le_refl _) (by simp only [List.length_nil]; omega) ?_; intro v5 w5 ho5 hg5; rw [List.nil_append] at ho5; have HO5 := Lib.hid ho5; have HB5 := Lib.hid ((Below.refl _ _).grown hg5 (Nat.le_refl _) (fun k hk => by cases hk)); obtain ⟨A5, c5, hf⟩ := own_form ho5; subst hf; have hm := blk_below HC.out HB5.out; have m0 := (blk_cell hm 0).trans (show _ = some (Value.int .i64 0) from rfl); have m1 := (blk_cell hm 1).trans (show _ = some (Value.slice none 0 0) from rfl); have m2 := (blk_cell hm 2).trans (show _ = some (Value.bool false) from rfl); have n0 := blk_frozen hm 0; have n1 := blk_frozen hm 1; have n2 := blk_frozen hm 2; clear ho5 hg5)
        have hb6 : Below w.heap.size w (((w5.setCell ⟨w.heap.size + 1, 0, none⟩ (.int .i64 pos)).setCell ⟨w.heap.size + 1, 1, none⟩ (.slice A5 b.length c5)).setCell ⟨w.heap.size + 1, 2, none⟩ (.bool true)) := (((HN.out.trans (HB5.out.mono HN.out.size)).setCell (p := ⟨w.heap.size + 1, 0, none⟩) (by simp) _).setCell (p := ⟨w.heap.size + 1, 1, none⟩) (by simp) _).setCell (p := ⟨w.heap.size + 1, 2, none⟩) (by simp) _
        have hr6 : Rd (((w5.setCell ⟨w.heap.size + 1, 0, none⟩ (.int .i64 pos)).setCell ⟨w.heap.size + 1, 1, none⟩ (.slice A5 b.length c5)).setCell ⟨w.heap.size + 1, 2, none⟩ (.bool true)) (.slice A5 b.length c5) b := by
          have hm := blk_below HC.out HB5.out
          have hF : Fr (· = w.heap.size + 1) w5 _ := ((Fr.setCell (S := (· = w.heap.size + 1)) (w := w5) (p := ⟨w.heap.size + 1, 0, none⟩) rfl (.int .i64 pos)).trans (Fr.setCell (S := (· = w.heap.size + 1)) (p := ⟨w.heap.size + 1, 1, none⟩) rfl (.slice A5 b.length c5))).trans (Fr.setCell (S := (· = w.heap.size + 1)) (p := ⟨w.heap.size + 1, 2, none⟩) rfl (.bool true))
          refine hF.u8 (fun i hi => ?_) _ _ (Rd.own HO5.out)
          subst hi
          rintro (h | ⟨cs, fr, h⟩)
          · have := HBs.out; omega
          · rw [hm] at h; injection h with h; injection h with _ h; exact absurd h (by decide)
        refine bodyPost_ret (v := .tuple #[.agg #[.int .i64 pos, .slice A5 b.length c5, .bool true], .int .i64 0]) ?_ rfl ⟨A5, c5, rfl, hr6, hb6⟩
        have hres := HRES.out
        simp only [results, hres]
        go_simp
end Go.Proofs.Ytalnhdeckdakfaa.Dev
