/-
  Chapter 32: the example ('known').
-/
import Derived.Test.YtalnhdeckdakfaaCkF
import Derived.Lib.SlBytesConst
namespace Go.Proofs.Ytalnhdeckdakfaa.Dev
open Go.RowKit Go.Proofs Co
set_option linter.unusedVariables false
set_option linter.unusedSectionVars false
set_option linter.unusedSimpArgs false
variable [Bs]

abbrev kC : ByteArray := ⟨#[99]⟩
def kst : DS := (saveD DS.new kC 2 [120, 121]).1
theorem kn32a : (saveD DS.new kC 2 [120, 121]).2 = 0 := by kernel_rfl
theorem kn32b : saveD kst kC 1 [] = (kst, 321) := by kernel_rfl
theorem kn32c : loadD kst kC = (2, [120, 121], true, 0) := by kernel_rfl
theorem kst_ok : kst.Ok := DS.Ok.save DS.ok_new kC 2 [120, 121]
theorem kst_b : BOk kst := BOk.save BOk.new kC 2 (fun x hx => by simp at hx; omega)

set_option maxHeartbeats 4000000 in
set_option maxRecDepth 100000 in
theorem known32_L {w00 w : World} {B : Own} (hB : Stable B) (hq : Bs.n ≤ w00.heap.size) (h : LS w00 B w) : Calls Try.prog 12 #[] w fun e w' => e = .returned (.bool true) ∧ LS w00 B w' ∧ U8 w w' := by
  have HL := Lib.hid h
  clear h
  have kc := fun w C n c => Lib.run_convert_bytes_const (P := Try.prog) w 32 5 C n c Try.underlying32 Try.underlying5
  go_enter Try.func12, Try.ntmps12
  go_wp2_with fail
  refine (new_L hB hq HL.out).mono ?_
  rintro e w1 ⟨d, rfl, h1, hu1⟩
  have HL1 := Lib.hid h1
  have HU1 := Lib.hid hu1
  clear h1 hu1 HL
  go_wp2_with fail
  have hl1 := HL1.out.below ((stable_dev d _).star hB) (lit_below w1 _ (Nat.le_refl _) (Obj.cells #[Value.int .u8 120, Value.int .u8 121] 5 (2, 3)))
  refine (save_L hB hq hl1.1 (show saveD DS.new kC 2 [120, 121] = (kst, 0) from Prod.ext rfl kn32a) DS.ok_new (leb (by kernel_rfl)) BOk.new (leb (by kernel_rfl)) (by decide) (rd_lit (heap_alloc_new w1 _) rfl rfl (by decide)) (by decide)).mono ?_
  rintro e w2 ⟨rfl, h1, hu⟩
  have HL2 := Lib.hid h1
  have HU2 := Lib.hid ((HU1.out.trans hl1.2).trans hu)
  clear h1 hu hl1 HL1 HU1
  go_wp2_with fail
  refine (save_L hB hq HL2.out kn32b kst_ok (leb (by kernel_rfl)) kst_b (leb (by kernel_rfl)) (by decide) (Rd.nil _) (by decide)).mono ?_
  rintro e w3 ⟨rfl, h1, hu⟩
  have HL3 := Lib.hid h1
  have HU3 := Lib.hid (HU2.out.trans hu)
  clear h1 hu HL2 HU2
  go_wp2_with fail
  refine (cpLoad_L hB hq HL3.out kst_ok kst_b (leb (by kernel_rfl))).mono ?_
  rw [kn32c]
  rintro e w4 ⟨v, rfl, hv, h1, hu⟩
  have HL4 := Lib.hid h1
  have HU4 := Lib.hid (HU3.out.trans hu)
  have s1 : (convert 32 9 v).run Try.prog w4 = .ok (.string ⟨#[120, 121]⟩) w4 := run_string hv
  clear h1 hu HL3 HU3 hv
  go_wp2
  go_ret
  exact ⟨rfl, LS.drop HL4.out, HU4.out⟩
end Go.Proofs.Ytalnhdeckdakfaa.Dev
