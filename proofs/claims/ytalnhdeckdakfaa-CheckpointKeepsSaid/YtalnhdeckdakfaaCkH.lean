/-
  Chapter 32: the law's load.
-/
import Derived.Test.YtalnhdeckdakfaaCkG
namespace Go.Proofs.Ytalnhdeckdakfaa.Dev
open Go.RowKit Go.Proofs Co
set_option linter.unusedVariables false
set_option linter.unusedSectionVars false
set_option linter.unusedSimpArgs false
variable [Bs]

set_option maxHeartbeats 4000000 in
set_option maxRecDepth 100000 in
theorem load32_L {w00 w : World} {d : Nat} {st : DS} {B : Own} (hB : Stable B) (hq : Bs.n ≤ w00.heap.size) (h : LS w00 (star (DevO d st) B) w) {k : ByteArray} (ok : st.Ok) (hbr : BOk st) (hk : k.size ≤ 9223372036854775807) :
    Calls Try.prog 17 #[.pointer (some ⟨d, 0, none⟩), .string k] w fun e w' => ∃ v, e = .returned (.tuple #[.agg #[.int .i64 (loadD st k).1, v, .bool (loadD st k).2.2.1], .bool ((loadD st k).2.2.2 == 0)]) ∧ Rd w' v (loadD st k).2.1 ∧ LS w00 (star (DevO d st) B) w' ∧ U8 w w' := by
  have HL := Lib.hid h
  have ha := h.below ((stable_dev d st).star hB) ((Below.refl _ _).alloc (Nat.le_refl _) (.cells #[.int .i64 0, .slice none 0 0, .bool false] 34))
  have HA := Lib.hid ha
  have hn := heap_alloc_new w (.cells #[.int .i64 0, .slice none 0 0, .bool false] 34)
  have Hn := Lib.hid hn
  clear h ha hn
  go_enter Try.func17, Try.ntmps17
  go_wp2_with fail
  obtain ⟨S, h1⟩ := HA.out.1.dev
  refine (load_dev h1 ok hbr.now k hk (Nat.le_trans hq HA.out.1.size)).mono ?_
  rintro e w1 ⟨v, rfl, hv, hb⟩
  have hn1 := blk_below Hn.out hb
  have HL1 := Lib.hid (HA.out.1.below ((stable_dev d st).star hB) hb)
  have HU1 := Lib.hid (HA.out.2.trans (U8.below hb))
  have Hv := Lib.hid hv
  generalize hld : loadD st k = ld at *
  obtain ⟨ps, bs, is, er⟩ := ld
  obtain ⟨VA, VC, rfl, _⟩ := hv
  have c0 := (blk_cell hn1 0).trans (show _ = some (Value.int .i64 0) from rfl)
  have c1 := (blk_cell hn1 1).trans (show _ = some (Value.slice none 0 0) from rfl)
  have c2 := (blk_cell hn1 2).trans (show _ = some (Value.bool false) from rfl)
  have f0 := blk_frozen hn1 0
  have f1 := blk_frozen hn1 1
  have f2 := blk_frozen hn1 2
  have hgB : Bs.n ≤ w.heap.size := Nat.le_trans hq HL.out.size
  have hb2 : Below w.heap.size w w1 := ((Below.refl _ _).alloc (Nat.le_refl _) _).trans (hb.mono (by simp))
  have hbF := ((hb2.setCell (p := ⟨w.heap.size, 0, none⟩) (Nat.le_refl _) (.int .i64 ps)).setCell (p := ⟨w.heap.size, 1, none⟩) (Nat.le_refl _) (.slice VA bs.length VC)).setCell (p := ⟨w.heap.size, 2, none⟩) (Nat.le_refl _) (.bool is)
  have hF : Fr (· = w.heap.size) w1 (((w1.setCell ⟨w.heap.size, 0, none⟩ (.int .i64 ps)).setCell ⟨w.heap.size, 1, none⟩ (.slice VA bs.length VC)).setCell ⟨w.heap.size, 2, none⟩ (.bool is)) :=
    ((Fr.setCell (S := (· = w.heap.size)) rfl _).trans (Fr.setCell (S := (· = w.heap.size)) rfl _)).trans (Fr.setCell (S := (· = w.heap.size)) rfl _)
  have hno8 : ¬ Own8 w1 w.heap.size := by
    rintro (h | ⟨cs, fr, h⟩)
    · omega
    · rw [hn1] at h; injection h with h; injection h with _ h; exact absurd h (by decide)
  have HVF := Lib.hid ((hF.u8 fun i hi => by subst hi; exact hno8) _ _ Hv.out)
  have HLF := Lib.hid (HL.out.below ((stable_dev d st).star hB) hbF)
  have hres : Try.f17.results = #[.cell 4 34, .tmp 5] := by kernel_rfl
  clear hb hn1 h1 hb2 hbF hF hno8
  go_wp2
  refine bodyPost_ret (v := .tuple #[.agg #[.int .i64 ps, .slice VA bs.length VC, .bool is], .bool (er == 0)]) ?_ rfl ⟨.slice VA bs.length VC, by rw [hld], by rw [hld]; exact HVF.out, HLF.out.1, HLF.out.2⟩
  simp only [results, hres]
  go_simp
end Go.Proofs.Ytalnhdeckdakfaa.Dev
