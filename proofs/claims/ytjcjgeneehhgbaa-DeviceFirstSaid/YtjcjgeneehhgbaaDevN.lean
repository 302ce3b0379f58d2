/-
  The device: Copy.
-/
import Derived.Test.YtjcjgeneehhgbaaSepL
import Derived.Deep.RegionHeld3
namespace Go.Proofs.Ytjcjgeneehhgbaa.Dev
open Go.RowKit Go.Proofs
set_option linter.unusedVariables false
set_option linter.unusedSectionVars false
set_option linter.unusedSimpArgs false
variable [Bs]

/-- what lies in a cell, as a word that no rule opens -/
def cellAt (w : World) (p : Addr) : Value := (w.cell? p).getD undef
theorem cellAt_eq {w : World} {p : Addr} {v : Value} (h : w.cell? p = some v) : w.cell? p = some (cellAt w p) := by simp [cellAt, h]
theorem cellAt_on {w w' : World} {p : Addr} {v : Value} (h : w.cell? p = some v) (hb : Below w.heap.size w w') : w'.cell? p = some (cellAt w' p) := cellAt_eq (cell_of_below hb h)
theorem frozen_on {w w' : World} {p : Addr} {v : Value} (hc : w.cell? p = some v) (h : w.frozen? p = false) (hb : Below w.heap.size w w') : w'.frozen? p = false := (hb.frozen (World.block_lt_of_cell? w p hc)).trans h
theorem cell_on {w w' : World} {p : Addr} {v : Value} (hc : w.cell? p = some v) (hb : Below w.heap.size w w') : w'.cell? p = some v := cell_of_below hb hc
theorem own_formS {w : World} {base n sz : Nat} {e : TypeId} {v : Value} {xs : List Value} (h : w.ownsRow base e sz v n xs) : ∃ a c, v = .slice a n c := by
  rcases h.2 with ⟨rfl, rfl⟩ | ⟨g, cap, cur, rfl, _⟩
  · exact ⟨none, 0, rfl⟩
  · exact ⟨_, cap, rfl⟩
theorem below_on {g : Nat} {w w1 w2 : World} (h : Below g w w1) (hg : w.heap.size = g) (hb : Below w1.heap.size w1 w2) : Below g w w2 := h.trans (hb.mono (by have := h.size; omega))
theorem le_on {g : Nat} {w w1 : World} (h : Below g w w1) (hg : w.heap.size = g) (hh : Bs.n ≤ g) : Bs.n ≤ w1.heap.size := by have := h.size; omega
/-- what stands while a copy is made -/
abbrev CSt (w : World) (d g : Nat) (v0 v1 v2 : Value) (w' : World) : Prop := w'.cell? ⟨d, 0, none⟩ = some v0 ∧ w'.cell? ⟨d, 1, none⟩ = some v1 ∧ w'.cell? ⟨d, 2, none⟩ = some v2 ∧ Below g w w'
theorem CSt.on {w w1 w2 : World} {d g : Nat} {v0 v1 v2 : Value} (h : CSt w d g v0 v1 v2 w1) (hg : w.heap.size = g) (hb : Below w1.heap.size w1 w2) : CSt w d g v0 v1 v2 w2 :=
  ⟨cell_of_below hb h.1, cell_of_below hb h.2.1, cell_of_below hb h.2.2.1, below_on h.2.2.2 hg hb⟩
theorem CSt.set {w w1 : World} {d g : Nat} {v0 v1 v2 : Value} (h : CSt w d g v0 v1 v2 w1) (hne : d ≠ g) (i : Nat) (v : Value) : CSt w d g v0 v1 v2 (w1.setCell ⟨g, i, none⟩ v) := by
  have e : ∀ j, (w1.setCell ⟨g, i, none⟩ v).cell? ⟨d, j, none⟩ = w1.cell? ⟨d, j, none⟩ := fun j => World.cell?_setCell_other _ _ _ _ (by intro h; injection h with h; exact hne h.symm)
  exact ⟨(e 0).trans h.1, (e 1).trans h.2.1, (e 2).trans h.2.2.1, Below.setCell h.2.2.2 (Nat.le_refl _) _⟩
theorem blk_on {w1 w2 : World} {g : Nat} {o : Obj} (h : w1.heap[g]? = some o) (hb : Below w1.heap.size w1 w2) : w2.heap[g]? = some o := (hb.block g (Array.getElem?_eq_some_iff.1 h).1).trans h

set_option maxHeartbeats 4000000 in
set_option maxRecDepth 100000 in
theorem copy_dev {w : World} {d : Nat} {st : DS} {S : Nat → Prop} (h : DevI w d st S) (hn : st.pend.length ≤ 100000) (hh : Bs.n ≤ w.heap.size) :
    Calls Try.prog 37 #[.pointer (some ⟨d, 0, none⟩)] w fun e w' => ∃ c S', e = .returned (.pointer (some ⟨c, 0, none⟩)) ∧ DevI w' c st S' ∧ Below w.heap.size w w' ∧ ∀ i, S' i → w.heap.size ≤ i := by
  obtain ⟨rd, rn, pv, cells, hW⟩ := h
  have HW := Lib.hid hW
  have c0 := hW.blk.c0
  have c1 := hW.blk.c1
  have c2 := hW.blk.c2
  have c3 := hW.blk.c3
  have c4 := hW.blk.c4
  have hlt := hW.blk.lt
  obtain ⟨A, c, rfl, hnc⟩ : ∃ A c, pv = .slice A st.pend.length c ∧ st.pend.length ≤ c := by
    rcases hW.own.2 with ⟨rfl, e⟩ | ⟨g, cap, cur, rfl, _, _, e4, _⟩
    · exact ⟨none, 0, by rw [e], by omega⟩
    · exact ⟨_, _, rfl, e4⟩
  clear hW
  go_enter Try.func37, Try.ntmps37
  go_wp2_with fail
  have hb0 : Below w.heap.size w (w.alloc (.cells #[.map (some rd), .map (some rn), .slice A st.pend.length c, .int .i64 st.fuse, .bool st.down] 81)) := (Below.refl _ _).alloc (Nat.le_refl _) _
  have hg : (w.alloc (.cells #[.map (some rd), .map (some rn), .slice A st.pend.length c, .int .i64 st.fuse, .bool st.down] 81)).heap[w.heap.size]? = some (.cells #[.map (some rd), .map (some rn), .slice A st.pend.length c, .int .i64 st.fuse, .bool st.down] 81 (0, 0)) := heap_alloc_new w _
  have hsz1 : (w.alloc (.cells #[.map (some rd), .map (some rn), .slice A st.pend.length c, .int .i64 st.fuse, .bool st.down] 81)).heap.size = w.heap.size + 1 := by simp
  have Hsz1 := Lib.hid hsz1
  clear hsz1
  generalize w.alloc (.cells #[.map (some rd), .map (some rn), .slice A st.pend.length c, .int .i64 st.fuse, .bool st.down] 81) = w1 at *
  have e0 := cell_of_below hb0 c0
  have e1 := cell_of_below hb0 c1
  have e2 := cell_of_below hb0 c2
  clear c0 c1 c2 c3 c4
  generalize hgg : w.heap.size = g at *
  have HB := Lib.hid hb0
  have HG := Lib.hid hg
  have hmap0 : ∀ W, Below g w W → MapI W rd st.dur := fun W hb => HW.out.dur.move (hb.block _ (by rw [← hgg]; exact HW.out.dur.lt)) (U8.below (by rw [hgg]; exact hb))
  have hmap1 : ∀ W, Below g w W → MapI W rn st.now := fun W hb => HW.out.now.move (hb.block _ (by rw [← hgg]; exact HW.out.now.lt)) (U8.below (by rw [hgg]; exact hb))
  have hrdo : ∀ W, Below g w W → RdO W (.slice A st.pend.length c) st.pend := fun W hb => (RdO.own HW.out.own HW.out.ops).below (by rw [hgg]; exact hb)
  have Hrdo := Lib.hid hrdo
  have Hle : Hid (∀ W, Below g w W → Bs.n ≤ W.heap.size) := Lib.hid fun W hb => le_on hb hgg hh
  clear hrdo
  have Hmap0 := Lib.hid hmap0
  have Hmap1 := Lib.hid hmap1
  clear hmap0 hmap1
  have hdg : d ≠ g := by omega
  have hS0 : CSt w d g (.map (some rd)) (.map (some rn)) (.slice A st.pend.length c) w1.drew := ⟨e0, e1, e2, hb0.drew⟩
  have hg : w1.drew.heap[g]? = some (.cells #[.map (some rd), .map (some rn), .slice A st.pend.length c, .int .i64 st.fuse, .bool st.down] 81 (0, 0)) := HG.out
  have HB' := Lib.hid ((Below.refl w1.heap.size w1).drew)
  clear hb0 e0 e1 e2
  go_region_held3 (fun w' => w'.cell? ⟨d, 0, none⟩ = some (.map (some rd)) ∧ w'.cell? ⟨d, 1, none⟩ = some (.map (some rn)) ∧ w'.cell? ⟨d, 2, none⟩ = some (.slice A st.pend.length c) ∧ Below g w w')
    (first
      | exact hS0
      | assumption
      | exact CSt.set (by assumption) hdg _ _)
    (first
      | (go_at_call 59; have hSc := (show CSt w d g _ _ _ _ by assumption); refine (cloneM_calls (r := rd) (fs := st.dur) (Hmap0.out _ hSc.2.2.2)).mono ?_; rintro e wa ⟨rfl, hm, hb, hsz⟩; have hS1 := CSt.on hSc hgg hb; have hg1 := blk_on hg hb; have HM0 := Lib.hid hm; have Hb0 := Lib.hid hb; clear hm hb hsz hSc)
      | (go_at_call 59; have hSc := (show CSt w d g _ _ _ _ by assumption); refine (cloneM_calls (r := rn) (fs := st.now) (Hmap1.out _ hSc.2.2.2)).mono ?_; rintro e wb ⟨rfl, hm, hb, hsz⟩; have hS2 := CSt.on hSc hgg hb; have hg2 := blk_on hg1 hb; have HM1 := Lib.hid hm; have Hb1 := Lib.hid hb; clear hm hb hsz hSc)
      | (go_at_call 54; have hSc := (show CSt w d g _ _ _ _ by assumption); refine (cloneO_calls (os := st.pend) (Hrdo.out _ hSc.2.2.2) (Hle.out _ hSc.2.2.2) (by omega)).mono ?_; rintro e wc ⟨v1, cells1, rfl, hown, hops, hb⟩; obtain ⟨A2, c2, he2⟩ := own_formS hown; subst he2; have hS3 := CSt.on hSc hgg hb; have hg3 := blk_on hg2 hb; have g0 : wc.cell? ⟨g, 0, none⟩ = some (.map (some rd)) := (blk_cell hg3 0).trans rfl; have g1 : wc.cell? ⟨g, 1, none⟩ = some (.map (some rn)) := (blk_cell hg3 1).trans rfl; have g2 : wc.cell? ⟨g, 2, none⟩ = some (.slice A st.pend.length c) := (blk_cell hg3 2).trans rfl; have k0 := blk_frozen hg3 0; have k1 := blk_frozen hg3 1; have k2 := blk_frozen hg3 2; have HO := Lib.hid hown; have HOp := Lib.hid hops; have Hb2 := Lib.hid hb; clear hown hops hb hSc))
  have hgl : g < w1.heap.size := (Array.getElem?_eq_some_iff.1 HG.out).1
  have hca : Below w1.heap.size w1 wa := HB'.out.trans Hb0.out
  have hne0 : w1.heap.size ≠ g := by omega
  have hsa := Hb0.out.size
  have hsb := Hb1.out.size
  have hd1 : w1.drew.heap.size = w1.heap.size := rfl
  have hne1 : wa.heap.size ≠ g := by omega
  have f0 := heap_setCell_same wc g 0 _ _ (.map (some w1.heap.size)) hg3
  have f1 := heap_setCell_same _ g 1 _ _ (.map (some wa.heap.size)) f0
  have f2 := heap_setCell_same _ g 2 _ _ (.slice A2 st.pend.length c2) f1
  have hF : Fr (· = g) wc (((wc.setCell ⟨g, 0, none⟩ (.map (some w1.heap.size))).setCell ⟨g, 1, none⟩ (.map (some wa.heap.size))).setCell ⟨g, 2, none⟩ (.slice A2 st.pend.length c2)) :=
    ((Fr.setCell (S := (· = g)) rfl _).trans (Fr.setCell (S := (· = g)) rfl _)).trans (Fr.setCell (S := (· = g)) rfl _)
  have hbF := ((hS3.2.2.2.setCell (p := ⟨g, 0, none⟩) (Nat.le_refl _) (.map (some w1.heap.size))).setCell (p := ⟨g, 1, none⟩) (Nat.le_refl _) (.map (some wa.heap.size))).setCell (p := ⟨g, 2, none⟩) (Nat.le_refl _) (.slice A2 st.pend.length c2)
  generalize ((wc.setCell ⟨g, 0, none⟩ (.map (some w1.heap.size))).setCell ⟨g, 1, none⟩ (.map (some wa.heap.size))).setCell ⟨g, 2, none⟩ (.slice A2 st.pend.length c2) = wF at *
  have HbF := Lib.hid hbF
  have HF := Lib.hid hF
  have Hf2 := Lib.hid f2
  clear hbF hF f0 f1 f2 g0 g1 g2 k0 k1 k2 hS0 hS1 hS2 hg hg1 hg2
  go_wp2
  go_ret
  have hgB : Bs.n ≤ g := by omega
  have hno8 : ¬ Own8 wc g := by
    rintro (h | ⟨cs, fr, h⟩)
    · omega
    · rw [hg3] at h; injection h with h; injection h with _ h; exact absurd h (by decide)
  have huF : U8 wc wF := HF.out.u8 fun i hi => by subst hi; exact hno8
  have hm0 : MapI wc w1.heap.size st.dur := (HM0.out.move (Hb1.out.block _ HM0.out.lt) (U8.below Hb1.out)).move (Hb2.out.block _ (Nat.lt_of_lt_of_le HM0.out.lt hsb)) (U8.below Hb2.out)
  have hm1 : MapI wc wa.heap.size st.now := HM1.out.move (Hb2.out.block _ HM1.out.lt) (U8.below Hb2.out)
  have hown : wc.ownsRow Bs.n 89 5 (.slice A2 st.pend.length c2) st.pend.length cells1 := by
    refine ⟨HO.out.1, HO.out.2.imp id ?_⟩
    rintro ⟨q, cap, cur, h1, h2, h3⟩
    exact ⟨q, cap, cur, h1, by omega, h3⟩
  have hog : ∀ i, (Value.slice A2 st.pend.length c2).ownBlock = some i → wb.heap.size ≤ i := fun i hi => own_base HO.out i hi
  have hlt0 := HM0.out.lt
  have hlt1 := HM1.out.lt
  refine ⟨g, fun i => i = g ∨ i = w1.heap.size ∨ i = wa.heap.size ∨ (Value.slice A2 st.pend.length c2).ownBlock = some i, rfl, ⟨w1.heap.size, wa.heap.size, .slice A2 st.pend.length c2, cells1, ?_, hm0.move (HF.out.block _ hm0.lt hne0) huF, hm1.move (HF.out.block _ hm1.lt hne1) huF, ?_, HOp.out.move huF, by omega, hgB, fun i => Iff.rfl⟩, by rw [hgg]; exact HbF.out, ?_⟩
  · exact Hf2.out
  · exact own_block hown fun i hi => HF.out.block i (own_lt hown hi) (by have := hog i hi; omega)
  · rintro i (e | e | e | e)
    · omega
    · omega
    · omega
    · have := hog i e; omega
theorem copy_L {w00 w : World} {d : Nat} {st : DS} {B : Own} (hB : Stable B) (hq : Bs.n ≤ w00.heap.size) (h : LS w00 (star (DevO d st) B) w) (hn : st.pend.length ≤ 100000) :
    Calls Try.prog 37 #[.pointer (some ⟨d, 0, none⟩)] w fun e w' => ∃ c, e = .returned (.pointer (some ⟨c, 0, none⟩)) ∧ LS w00 (star (DevO c st) (star (DevO d st) B)) w' ∧ U8 w w' := by
  obtain ⟨S, h1⟩ := h.dev
  refine (copy_dev h1 hn (Nat.le_trans hq h.size)).mono ?_
  rintro e w' ⟨c, S', rfl, h2, h3, h4⟩
  exact ⟨c, rfl, LS.fresh (B := DevO c st) ((stable_dev d st).star hB) h h3 h2 h4⟩
end Go.Proofs.Ytjcjgeneehhgbaa.Dev
