/-
  CheckpointPlays, walked: the law's function returns true and writes nothing elder.
-/
import Derived.Test.YtalnhdeckdakfaaCkW
import Derived.Deep.RegionHeld3
import Derived.Deep.CutRange
namespace Go.Proofs.Ytalnhdeckdakfaa.Dev
open Go.RowKit Go.Proofs Co
set_option linter.unusedVariables false
set_option linter.unusedSectionVars false
set_option linter.unusedSimpArgs false
variable [Bs]

theorem tbytes_BL' (xs : List Int) (i n : Nat) {k : Int} (hk : 1 ≤ k ∧ k ≤ 256) : BL (tbytes xs i n k) := by
  intro x hx
  unfold tbytes at hx
  obtain ⟨j, _, rfl⟩ := List.mem_map.1 hx
  have := tnext_range xs (i + j) hk.1
  omega
def nameCells : Array Value := #[.string ⟨#[97]⟩, .string ⟨#[97, 98]⟩, .string ⟨#[97, 45, 98]⟩, .string ⟨#[65]⟩, .string ⟨#[]⟩]
theorem nameCells_get {j : Nat} (h : j < 5) : nameCells[j]? = some (.string (pn j)) := by
  match j, h with
  | 0, _ => rfl
  | 1, _ => rfl
  | 2, _ => rfl
  | 3, _ => rfl
  | 4, _ => rfl
def RdW (w : World) (cs : Nat → CP) (sl : Nat → Option Addr × Nat) : Prop := ∀ i, Rd w (.slice (sl i).1 (cs i).st.length (sl i).2) (cs i).st
theorem RdW.u {w w' : World} {cs : Nat → CP} {sl : Nat → Option Addr × Nat} (h : RdW w cs sl) (hu : U8 w w') : RdW w' cs sl := fun i => hu _ _ (h i)
theorem zeroCells_get {j : Nat} (h : j < 15) : (madeCells #[Value.int .i64 0, .slice none 0 0, .bool false] 15)[j]? = some (wcell (fun _ => CP.zero) (fun _ => (none, 0)) j) := by
  have h1 : (madeCells #[Value.int .i64 0, .slice none 0 0, .bool false] 15)[j]? = some ((#[Value.int .i64 0, .slice none 0 0, .bool false] : Array Value)[j % 3]!) := by
    unfold madeCells
    rw [Array.getElem?_map, Array.getElem?_range]
    simp [h]
  rw [h1]
  unfold wcell
  have h3 : j % 3 = 0 ∨ j % 3 = 1 ∨ j % 3 = 2 := by omega
  rcases h3 with h3 | h3 | h3 <;> rw [h3] <;> rfl

theorem rSave_K {w : World} {K : Ending → World → Prop} {v vb : Value} {xs b xs' : List Int} {p pos p' er : Int} {is is' : Bool} {k : ByteArray} (h : Rd w v xs) (hb : Rd w vb b) (e2 : refSave p xs is k pos b = (p', xs', is', er)) (hk : k.size ≤ 9223372036854775807) (hl : b.length ≤ 2097152) (hB : Bs.n ≤ w.heap.size)
    (k1 : ∀ A c w', Rd w' (.slice A xs'.length c) xs' → Below w.heap.size w w' → K (.returned (.tuple #[.agg #[.int .i64 p', .slice A xs'.length c, .bool is'], .int .i64 er])) w') :
    Calls Try.prog 15 #[.agg #[.int .i64 p, v, .bool is], .string k, .int .i64 pos, vb] w K :=
  (rSave32_calls h hb p pos is k hk hl hB).mono fun e w' ⟨A, c, he, h1, h2⟩ => by
    rw [e2] at he h1
    subst he
    exact k1 A c w' h1 h2
theorem OLe.behind (A B : Own) : OLe (star A B) B := by
  rintro w S ⟨S1, S2, h1, h2, hd, hs⟩
  exact ⟨S2, h2, fun i hi => (hs i).2 (.inr hi)⟩
theorem arr_set3 {w00 w : World} {A : Own} {g : Nat} {cs : Nat → CP} {sl : Nat → Option Addr × Nat} {t : TypeId} (hA : Stable A) (h : LS w00 (star (ArrO g 15 (wcell cs sl) t) A) w) (i : Nat) (c : CP) (a : Option Addr) (cp : Nat) :
    LS w00 (star (ArrO g 15 (wcell (upd cs i c) (upd sl i (a, cp))) t) A) (((w.setCell ⟨g, i * 3, none⟩ (.int .i64 c.pos)).setCell ⟨g, i * 3 + 1, none⟩ (.slice a c.st.length cp)).setCell ⟨g, i * 3 + 2, none⟩ (.bool (decide (c.turn ≠ 0)))) ∧
      U8 w (((w.setCell ⟨g, i * 3, none⟩ (.int .i64 c.pos)).setCell ⟨g, i * 3 + 1, none⟩ (.slice a c.st.length cp)).setCell ⟨g, i * 3 + 2, none⟩ (.bool (decide (c.turn ≠ 0)))) := by
  have h1 := arr_set hA h (i * 3) (.int .i64 c.pos)
  have h2 := arr_set hA h1.1 (i * 3 + 1) (.slice a c.st.length cp)
  have h3 := arr_set hA h2.1 (i * 3 + 2) (.bool (decide (c.turn ≠ 0)))
  exact ⟨h3.1.le (star_le (arr_le fun j _ => wcell_upd cs sl i c (a, cp) j)), h1.2.trans (h2.2.trans h3.2)⟩

set_option maxHeartbeats 40000000 in
set_option maxRecDepth 100000 in
theorem plays32_walk {w : World} (hB : Bs.n = w.heap.size) {lv : Value} {xs : List Int} (hl : RdI w lv xs) :
    Calls Try.prog 3 #[lv] w fun e w' => e = .returned (.bool true) ∧ Below w.heap.size w w' := by
  have Hl := Lib.hid hl
  obtain ⟨A0, c0, rfl, _⟩ := hl
  have hq : Bs.n ≤ w.heap.size := Nat.le_of_eq hB
  have hT := fun i => stable_tape w w.heap.size xs i
  have hcpne : 34 ≠ 5 := by decide
  have hstne : 9 ≠ 5 := by decide
  go_enter Try.func3, Try.ntmps3
  go_wp2_with fail
  have h0 := tape_L hB Hl.out
  refine (new_L ((hT 0).star stable_emp) hq h0.1).mono ?_
  rintro e w1 ⟨d, rfl, h1, hu1⟩
  have HL1 := Lib.hid h1
  clear h0 h1 hu1
  go_wp2_with fail
  refine (known32_L ((stable_dev d _).star ((hT _).star stable_emp)) hq HL1.out).mono ?_
  rintro e w2 ⟨rfl, h1, hu⟩
  have hb := blk_fresh ((stable_dev d _).star ((hT 0).star stable_emp)) h1 nameCells hstne hq
  obtain ⟨i0, hi0, hzz⟩ := Option.map_eq_some_iff.1 (show (Try.prog.info? 34).map (fun i => (i.zero, i.size, i.bytes)) = some (some (.agg #[.int .i64 0, .slice none 0 0, .bool false]), 3, 40) by kernel_rfl)
  simp only [Prod.mk.injEq] at hzz
  obtain ⟨hz0, hz1, hz2⟩ := hzz
  have hmk := run_make (P := Try.prog) (w2.alloc (.cells nameCells 9)) 30 34 i0 _ Try.underlying30 hi0 hz0 .i64 .i64 5 5 (by omega) (by omega) (by rw [hz2]; omega) (by omega)
  rw [hz1] at hmk
  change (Instr.makeSlice 30 (.int .i64 5) (.int .i64 5)).run Try.prog (w2.alloc (.cells nameCells 9)) = .ok (.slice (some ⟨(w2.alloc (.cells nameCells 9)).heap.size, 0, none⟩) 5 5) ((w2.alloc (.cells nameCells 9)).alloc (.cells (madeCells #[Value.int .i64 0, .slice none 0 0, .bool false] 15) 34)) at hmk
  have ha := arr_fresh ((stable_blk _ _ _).star ((stable_dev d _).star ((hT 0).star stable_emp))) hb.1 (n := 15) (madeCells #[Value.int .i64 0, .slice none 0 0, .bool false] 15) hcpne hq (by simp [size_madeCells]) (f := wcell (fun _ => CP.zero) (fun _ => (none, 0))) (fun j hj => zeroCells_get hj)
  rw [show (w2.alloc (.cells nameCells 9)).heap.size = w2.heap.size + 1 by simp] at hmk ha
  have HL2 := Lib.hid ha.1
  clear h1 hu HL1 hb ha hi0 hz0 hz1 hz2
  generalize hcz : madeCells #[Value.int .i64 0, .slice none 0 0, .bool false] 15 = cz at *
  clear hcz
  unfold nameCells at hmk HL2
  have hperm := ((((HL2.out.le (star_mono (star_rot _ _ _))).le (star_mono (star_mono (star_rot _ _ _)))).rot).le (star_mono (star_rot _ _ _))).rot
  have HL3 := Lib.hid hperm
  clear HL2 hperm
  have hSB : Stable (star (BlkO w2.heap.size #[.string ⟨#[97]⟩, .string ⟨#[97, 98]⟩, .string ⟨#[97, 45, 98]⟩, .string ⟨#[65]⟩, .string ⟨#[]⟩] 9) emp) := (stable_blk _ _ _).star stable_emp
  go_wp2_with fail
  refine next_K HL3.out ((stable_dev d _).star ((stable_arr _ _ _ _).star hSB)) hq (by omega) (by omega) ?_
  intro w4 h4 hu4
  have HL4 := Lib.hid h4
  have hnm : ∀ w', LS w (star (BlkO w2.heap.size #[.string ⟨#[97]⟩, .string ⟨#[97, 98]⟩, .string ⟨#[97, 45, 98]⟩, .string ⟨#[65]⟩, .string ⟨#[]⟩] 9) emp) w' → ∀ j, j < 5 → w'.cell? ⟨w2.heap.size, j, none⟩ = some (.string (pn j)) := fun w' h j hj => (blk_cell h.blk j).trans (nameCells_get hj)
  have Hnm := Lib.hid hnm
  clear h4 hu4 HL3 hnm hmk
  have hr := tnext_range xs 0 (show (1 : Int) ≤ 16 by omega)
  obtain ⟨n, hny⟩ : ∃ n : Nat, tnext xs 0 16 = n := ⟨(tnext xs 0 16).toNat, by omega⟩
  rw [hny] at hr ⊢
  have hn15 : n ≤ 15 := by omega
  clear hny hr
  dsimp only
  generalize hNR : (star (BlkO w2.heap.size #[.string ⟨#[97]⟩, .string ⟨#[97, 98]⟩, .string ⟨#[97, 45, 98]⟩, .string ⟨#[65]⟩, .string ⟨#[]⟩] 9) emp) = NR at *
  clear hNR
  go_wp2
  generalize hgw : w2.heap.size + 1 = gw at *
  generalize hgn : w2.heap.size = gn at *
  clear hgw hgn
  go_loopw [7] (fun k wr => ∃ (q i m : Nat) (cs : Nat → CP) (sl : Nat → Option Addr × Nat) (st : DS), k = .int .i64 q ∧ q ≤ 15 ∧
    LS w (star (TapeO w w.heap.size xs i) (star (DevO d st) (star (ArrO gw 15 (wcell cs sl) 34) NR))) wr ∧ RdW wr cs sl ∧ PI m cs st ∧ m + q ≤ 15 ∧ i + 100 * q ≤ 10000)
    (fun k _ => (intOf k).toNat)
  case atStart => exact ⟨n, 1, 0, fun _ => CP.zero, fun _ => (none, 0), DS.new, rfl, hn15, HL4.out, fun i => Rd.nil _, PI.new, by omega, by omega⟩
  case round =>
    obtain ⟨q, i, m, cs, sl, st, rfl, hq15, hL, hrd, hP, hm, hi⟩ := hrel
    have HL := Lib.hid hL
    have HRd := Lib.hid hrd
    have HP := Lib.hid hP
    clear hL hrd hP HL4
    by_cases h0 : 0 < q
    rotate_left
    · have hq0 : q = 0 := by omega
      subst hq0
      go_wp2
      go_ret
      exact ⟨rfl, HL.out.end hB⟩
    have hSA : ∀ st cs sl, Stable (star (DevO d st) (star (ArrO gw 15 (wcell cs sl) 34) NR)) := fun st cs sl => (stable_dev d st).star ((stable_arr _ _ _ _).star hSB)
    go_wp2_with fail
    refine next_K HL.out (hSA _ _ _) hq (by omega) (by omega) ?_
    intro w5 h5 hu5
    have hri := tnext_range xs i (show (1 : Int) ≤ 5 by omega)
    obtain ⟨j, hj⟩ : ∃ j : Nat, tnext xs i 5 = j := ⟨(tnext xs i 5).toNat, by omega⟩
    rw [hj] at hri ⊢
    have hj5 : j < 5 := by omega
    clear hj
    have HRd5 := Lib.hid (HRd.out.u hu5)
    have hL5 := h5
    clear h5 hu5 HL HRd
    dsimp only
    go_upto_region 11 with fail
    have hd5 : Below w5.heap.size w5 w5.drew := (Below.refl _ _).drew
    have hL5d := (hL5.below ((hT (i + 1)).star (hSA _ _ _)) hd5).1
    have hR5d := HRd5.out.u (U8.below hd5)
    have hpos := HP.out.pos j
    have hr5 := tnext_range xs (i + 1) (show (1 : Int) ≤ 5 by omega)
    have hr9 := tnext_range xs (i + 1 + 1) (show (1 : Int) ≤ 9 by omega)
    have hr10 := tnext_range xs (i + 1 + 1 + 1) (show (1 : Int) ≤ 9 by omega)
    obtain ⟨n20, hn20⟩ : ∃ n : Nat, tnext xs (i + 1 + 1) 9 = n := ⟨(tnext xs (i + 1 + 1) 9).toNat, by omega⟩
    obtain ⟨k4, hk4⟩ : ∃ k : Int, 1 + tnext xs (i + 1 + 1 + 1) 9 = k := ⟨_, rfl⟩
    have hwk : IntKind.i64.wrap k4 = k4 := by rw [IntKind.wrap_i64]; omega
    have hwp : IntKind.i64.wrap (((cs j).pos : Int) + tnext xs (i + 1) 5) = ((cs j).pos : Int) + tnext xs (i + 1) 5 := by rw [IntKind.wrap_i64]; omega
    have hwp2 : IntKind.i64.wrap (((cs j).pos : Int) + tnext xs (i + 1) 5 - 1) = ((cs j).pos : Int) + tnext xs (i + 1) 5 - 1 := by rw [IntKind.wrap_i64]; omega
    have hx0 : w5.drew.cell? ⟨gw, j * 3, none⟩ = some (.int .i64 (cs j).pos) := (hL5d.drop.drop.arr.1 (j * 3) (by omega)).trans (by rw [wcell0])
    have hjl : decide ((j : Int) < 5) = true := decide_eq_true (by omega)
    have hj0 : (0 : Int) ≤ (j : Int) := by omega
    clear hd5
    go_cut [9, 10] from 40 to 55 (fun pv sv wx => ∃ (A : Option Addr) (c : Nat), pv = .int .i64 (((cs j).pos : Int) + tnext xs (i + 1) 5 - 1) ∧ sv = .slice A n20 c ∧ Rd wx (.slice A n20 c) (tbytes xs (i + 1 + 1 + 1 + 1) n20 k4) ∧
      LS w (star (TapeO w w.heap.size xs (i + 1 + 1 + 1 + 1 + n20)) (star (DevO d st) (star (ArrO gw 15 (wcell cs sl) 34) NR))) wx ∧ RdW wx cs sl)
    case first =>
      go_region_held3 (fun w' => w'.cell? ⟨gw, j * 3, none⟩ = some (.int .i64 (cs j).pos))
        (first | assumption | go_keep)
        (first
          | (go_at_call 13
             refine next_K (w00 := w) (xs := xs) (i := ?_) (B := ?_) ?_ ?_ hq ?_ ?_ ?_
             rotate_left 2
             · with_reducible assumption
             · exact hSA _ _ _
             · omega
             · omega
             intro w' h hu
             dsimp only
             try rw [hn20]
             have hr := RdW.u (by with_reducible assumption) hu
             have hk : w'.cell? ⟨gw, j * 3, none⟩ = some (.int .i64 (cs j).pos) := (h.drop.drop.arr.1 (j * 3) (by omega)).trans (by rw [wcell0]))
          | (go_at_call 14
             refine bytes_K (w00 := w) (xs := xs) (i := ?_) (B := ?_) ?_ ?_ hq ?_ ?_ ?_ ?_
             rotate_left 2
             · with_reducible assumption
             · exact hSA _ _ _
             · omega
             · omega
             · omega
             intro Bv cv w' hv h hu
             dsimp only
             have hr := RdW.u (by with_reducible assumption) hu
             have hk : w'.cell? ⟨gw, j * 3, none⟩ = some (.int .i64 (cs j).pos) := (h.drop.drop.arr.1 (j * 3) (by omega)).trans (by rw [wcell0]))
          )
      all_goals (go_wp2; go_meet)
      case rel => exact ⟨Bv, cv, rfl, rfl, hv, h, hr⟩
    case rest =>
      obtain ⟨Bv, cv, rfl, rfl, hv, hL, hrd⟩ := hcut
      have hbl : BL (tbytes xs (i + 1 + 1 + 1 + 1) n20 k4) := tbytes_BL' xs _ n20 (by omega)
      have hln := tbytes_len xs (i + 1 + 1 + 1 + 1) n20 k4
      generalize tbytes xs (i + 1 + 1 + 1 + 1) n20 k4 = bs at *
      generalize tnext xs (i + 1) 5 = r at *
      have hi2 : i + 1 + 1 + 1 + 1 + n20 ≤ i + 12 := by omega
      generalize i + 1 + 1 + 1 + 1 + n20 = i2 at *
      subst hln
      have hbs8 : bs.length ≤ 8 := by omega
      obtain ⟨st', c', er, e1, e2, P'⟩ := plays_step HP.out (by omega) j (r := r) ⟨by omega, by omega⟩ hbl (by omega)
      obtain ⟨ib, hib⟩ : ∃ ib : Bool, decide ((cs j).turn ≠ 0) = ib := ⟨_, rfl⟩
      obtain ⟨ic, hic⟩ : ∃ ic : Bool, decide (c'.turn ≠ 0) = ic := ⟨_, rfl⟩
      rw [hib, hic] at e2
      have Hib := Lib.hid hib
      have Hic := Lib.hid hic
      clear hib hic
      have E1 := Lib.hid e1
      have HP' := Lib.hid P'
      have HB9 := Lib.hid hbl
      clear hk4 hn20 hwk hwp hwp2 hx0 hL5d hR5d hr9 hr10 hL5 HRd5 P' hbl e1
      go_upto_region 12 with fail
      have hdd : Below wc.heap.size wc wc.drew := (Below.refl _ _).drew
      have hLd := (hL.below ((hT i2).star (hSA _ _ _)) hdd)
      have hLa0 := sink_fresh2 hL ((hT i2).star (hSA _ _ _)) #[Value.int .i64 0, .slice none 0 0, .bool false] hcpne hq
      have hLa := hLa0.1.below ((hT i2).star ((stable_dev d _).star ((stable_blk _ _ _).star ((stable_arr _ _ _ _).star hSB)))) (Below.refl _ _).drew
      have hua := hLa0.2.trans hLa.2
      have hv1 := hLd.2 _ _ hv
      have hv2 := hua _ _ hv
      have hw1 := hrd.u hLd.2
      have hw2 := hrd.u hua
      have hj1 := hw1 j
      have hj2 := hw2 j
      have hx0 := hLd.1.drop.drop.arr.1 (j * 3) (by omega)
      have hx1 := hLd.1.drop.drop.arr.1 (j * 3 + 1) (by omega)
      have hx2 := hLd.1.drop.drop.arr.1 (j * 3 + 2) (by omega)
      have hx3 := Hnm.out _ hLd.1.drop.drop.drop j hj5
      rw [wcell0] at hx0
      rw [wcell1] at hx1
      rw [wcell2, Hib.out] at hx2
      have hLd1 := hLd.1
      have hLa1 := hLa.1
      have hy0 := hLa1.drop.drop.drop.arr.1 (j * 3) (by omega)
      have hy1 := hLa1.drop.drop.drop.arr.1 (j * 3 + 1) (by omega)
      have hy2 := hLa1.drop.drop.drop.arr.1 (j * 3 + 2) (by omega)
      have hy3 := Hnm.out _ hLa1.drop.drop.drop.drop j hj5
      rw [wcell0] at hy0
      rw [wcell1] at hy1
      rw [wcell2, Hib.out] at hy2
      have hps := pn_sz j
      clear hLa0 hua hdd hLd hLa hL hrd hv
      go_cut [11, 12] from 56 to 69 (fun xv ev wx => ∃ (gx : Nat) (A : Option Addr) (c : Nat), xv = .pointer (some ⟨gx, 0, none⟩) ∧ ev = .int .i64 er ∧
        LS w (star (TapeO w w.heap.size xs i2) (star (DevO d st) (star (BlkO gx #[Value.int .i64 c'.pos, .slice A c'.st.length c, .bool ic] 34) (star (ArrO gw 15 (wcell cs sl) 34) NR)))) wx ∧
        Rd wx (.slice A c'.st.length c) c'.st ∧ RdW wx cs sl ∧ Rd wx (.slice Bv bs.length cv) bs)
      case first =>
        go_region_held3 (fun w' => w'.cell? ⟨gw, j * 3, none⟩ = some (.int .i64 (cs j).pos) ∧ w'.cell? ⟨gw, j * 3 + 1, none⟩ = some (.slice (sl j).1 (cs j).st.length (sl j).2) ∧ w'.cell? ⟨gw, j * 3 + 2, none⟩ = some (.bool ib) ∧ w'.cell? ⟨gn, j, none⟩ = some (.string (pn j)))
          (first
            | assumption
            | exact ⟨hx0, hx1, hx2, hx3⟩
            | exact ⟨hy0, hy1, hy2, hy3⟩
            | exact ⟨cell_of_below (lit_below _ _ (Nat.le_refl _) _) hS4.1, cell_of_below (lit_below _ _ (Nat.le_refl _) _) hS4.2.1, cell_of_below (lit_below _ _ (Nat.le_refl _) _) hS4.2.2.1, cell_of_below (lit_below _ _ (Nat.le_refl _) _) hS4.2.2.2⟩
            | (have hq3 := (set3_deep h ((hT i2).star ((stable_dev d _).star ((stable_arr _ _ _ _).star hSB))) (Value.int .i64 c'.pos) (.slice A c'.st.length c) (.bool ic)).1
               exact ⟨(hq3.drop.drop.drop.arr.1 (j * 3) (by omega)).trans (by rw [wcell0]), (hq3.drop.drop.drop.arr.1 (j * 3 + 1) (by omega)).trans (by rw [wcell1]), (hq3.drop.drop.drop.arr.1 (j * 3 + 2) (by omega)).trans (by rw [wcell2, Hib.out]), Hnm.out _ hq3.drop.drop.drop.drop j hj5⟩)
            | go_keep)
          (first
            | (go_at_call 15
               refine rSave_K (xs := (cs j).st) (b := bs) ?_ ?_ e2 (by omega) (by omega) ?_ ?_
               · with_reducible assumption
               · with_reducible assumption
               · first | exact Nat.le_trans hq (LS.size (by with_reducible assumption)) | exact Nat.le_trans hq (LS.size hLd1) | exact Nat.le_trans hq (LS.size hLa1)
               intro A c w' hr hb
               dsimp only
               first
                 | (have h := (hLd1.below ((hT i2).star (hSA _ _ _)) hb).1
                    have hu := (hLd1.below ((hT i2).star (hSA _ _ _)) hb).2
                    have hrw := hw1.u hu
                    have hrv := hu _ _ hv1
                    have hS4 := And.intro (cell_of_below hb hx0) (And.intro (cell_of_below hb hx1) (And.intro (cell_of_below hb hx2) (cell_of_below hb hx3))))
                 | (have h := (hLa1.below ((hT i2).star ((stable_dev d _).star ((stable_blk _ _ _).star ((stable_arr _ _ _ _).star hSB)))) hb).1
                    have hu := (hLa1.below ((hT i2).star ((stable_dev d _).star ((stable_blk _ _ _).star ((stable_arr _ _ _ _).star hSB)))) hb).2
                    have hrw := hw2.u hu
                    have hrv := hu _ _ hv2
                    have hS4 := And.intro (cell_of_below hb hy0) (And.intro (cell_of_below hb hy1) (And.intro (cell_of_below hb hy2) (cell_of_below hb hy3)))
                    have g0 := (blk_cell h.drop.drop.blk 0).trans (show _ = some (Value.int .i64 0) from rfl)
                    have g1 := (blk_cell h.drop.drop.blk 1).trans (show _ = some (Value.slice none 0 0) from rfl)
                    have g2 := (blk_cell h.drop.drop.blk 2).trans (show _ = some (Value.bool false) from rfl)
                    have k0 := blk_frozen h.drop.drop.blk 0
                    have k1 := blk_frozen h.drop.drop.blk 1
                    have k2 := blk_frozen h.drop.drop.blk 2))
            )
        all_goals (go_wp2; go_meet)
        all_goals
          (case rel =>
            first
              | (have hfin := set3_deep h ((hT i2).star ((stable_dev d _).star ((stable_arr _ _ _ _).star hSB))) (Value.int .i64 c'.pos) (.slice A c'.st.length c) (.bool ic)
                 exact ⟨_, A, c, rfl, rfl, hfin.1, hfin.2 _ _ hr, hrw.u hfin.2, hfin.2 _ _ hrv⟩)
              | (have hfin := sink_fresh2 h ((hT i2).star (hSA _ _ _)) #[Value.int .i64 c'.pos, .slice A c'.st.length c, .bool ic] hcpne hq
                 exact ⟨_, A, c, rfl, rfl, hfin.1, hfin.2 _ _ hr, hrw.u hfin.2, hfin.2 _ _ hrv⟩))
      case rest =>
        obtain ⟨gx, A, c, rfl, rfl, hL, hr, hrw, hrv⟩ := hcut
        have HL := Lib.hid hL.rot
        have HR := Lib.hid hr
        have HRw := Lib.hid hrw
        have HRv := Lib.hid hrv
        have hnc := Hnm.out _ hL.drop.drop.drop.drop j hj5
        have hSX : ∀ cs sl, Stable (star (BlkO gx #[Value.int .i64 c'.pos, .slice A c'.st.length c, .bool ic] 34) (star (ArrO gw 15 (wcell cs sl) 34) NR)) := fun cs sl => (stable_blk _ _ _).star ((stable_arr _ _ _ _).star hSB)
        clear hL hr hrw hrv hLd1 hLa1 hv1 hv2 hw1 hw2 hj1 hj2 hx0 hx1 hx2 hx3 hy0 hy1 hy2 hy3
        go_wp2_with fail
        refine (save_L ((hT _).star (hSX _ _)) hq HL.out E1.out HP.out.clean.ok (by rw [HP.out.clean.pend]; exact leb (by kernel_rfl)) HP.out.clean.b (by omega) (by omega) HRv.out (by omega)).mono ?_
        rintro e w7 ⟨rfl, h1, hu⟩
        have HL7 := Lib.hid h1
        have HR7 := Lib.hid (hu _ _ HR.out)
        have HRw7 := Lib.hid (HRw.out.u hu)
        have hgx := h1.drop.drop.blk
        have x0 := (blk_cell hgx 0).trans (show _ = some (Value.int .i64 c'.pos) from rfl)
        have x1 := (blk_cell hgx 1).trans (show _ = some (Value.slice A c'.st.length c) from rfl)
        have x2 := (blk_cell hgx 2).trans (show _ = some (Value.bool ic) from rfl)
        have harr := h1.drop.drop.drop.arr
        have y0 := harr.1 (j * 3) (by omega)
        have y1 := harr.1 (j * 3 + 1) (by omega)
        have y2 := harr.1 (j * 3 + 2) (by omega)
        have f0 := harr.2 (j * 3)
        have f1 := harr.2 (j * 3 + 1)
        have f2 := harr.2 (j * 3 + 2)
        rw [wcell0] at y0
        rw [wcell1] at y1
        rw [wcell2] at y2
        clear h1 hu hgx harr HL HR HRw HRv hnc
        dsimp only
        go_wp2_with fail
        have hq1 := (HL7.out.less (OLe.tail (OLe.tail (OLe.behind _ _)))).rise
        have hq2 := arr_set3 ((stable_dev d st').star ((hT i2).star hSB)) hq1 j c' A c
        rw [Hic.out] at hq2
        have HL8 := Lib.hid hq2.1.sink
        have hRw8 : RdW (((w7.setCell ⟨gw, j * 3, none⟩ (.int .i64 c'.pos)).setCell ⟨gw, j * 3 + 1, none⟩ (.slice A c'.st.length c)).setCell ⟨gw, j * 3 + 2, none⟩ (.bool ic)) (upd cs j c') (upd sl j (A, c)) := fun z => by
          by_cases hz : z = j
          · subst hz
            rw [upd_same, upd_same]
            exact hq2.2 _ _ HR7.out
          · rw [upd_ne _ _ hz, upd_ne _ _ hz]
            exact hq2.2 _ _ (HRw7.out z)
        have HRw8 := Lib.hid hRw8
        clear hq1 hq2 hRw8 HL7 HR7 HRw7 x0 x1 x2 y0 y1 y2 f0 f1 f2
        generalize ((w7.setCell ⟨gw, j * 3, none⟩ (.int .i64 c'.pos)).setCell ⟨gw, j * 3 + 1, none⟩ (.slice A c'.st.length c)).setCell ⟨gw, j * 3 + 2, none⟩ (.bool ic) = w8 at *
        have hSD : ∀ cs sl, Stable (star (DevO d st') (star (TapeO w w.heap.size xs i2) (star (ArrO gw 15 (wcell cs sl) 34) NR))) := fun cs sl => (stable_dev d _).star ((hT i2).star ((stable_arr _ _ _ _).star hSB))
        generalize upd cs j c' = cs2 at *
        generalize upd sl j (A, c) = sl2 at *
        clear E1 HP Hib Hic e2
        go_loopw [13] (fun mv wr => ∃ k' : Nat, mv = .int .i64 k' ∧ k' ≤ 3 ∧ LS w (star (DevO d st') (star (TapeO w w.heap.size xs i2) (star (ArrO gw 15 (wcell cs2 sl2) 34) NR))) wr ∧ RdW wr cs2 sl2) (fun mv _ => 3 - (intOf mv).toNat)
        case atStart => exact ⟨0, rfl, by omega, HL8.out, HRw8.out⟩
        case round =>
          obtain ⟨k', rfl, hk3, hL, hRw⟩ := hrel
          have HL := Lib.hid hL
          have HRw := Lib.hid hRw
          have hnc := fun h => Hnm.out _ hL.drop.drop.drop k' h
          clear hL hRw HL8 HRw8
          by_cases hlt : k' < 3
          rotate_left
          · go_wp2_with fail
            refine ⟨⟨q - 1, i2, m + 1, cs2, sl2, st', by go_num, by omega, HL.out.rot, HRw.out, HP'.out, by omega, by omega⟩, by simp [intOf]; omega⟩
          have hn1 := hnc (by omega)
          have hps' := pn_sz k'
          have hkl : decide ((k' : Int) < 5) = true := decide_eq_true (by omega)
          have hkl3 : (k' : Int) < 5 := by omega
          have hkn : k' < 5 := by omega
          have hk0 : (0 : Int) ≤ (k' : Int) := by omega
          have hload := load_at HP'.out.clean (pn_v hlt) (HP'.out.at_ k' hlt)
          clear hnc
          go_wp2_with fail
          refine (load32_L ((hT i2).star ((stable_arr _ _ _ _).star hSB)) hq HL.out HP'.out.clean.ok HP'.out.clean.b (by omega)).mono ?_
          rw [hload]
          obtain ⟨ib, hib⟩ : ∃ ib : Bool, decide ((cs2 k').turn ≠ 0) = ib := ⟨_, rfl⟩
          rw [hib]
          have Hib := Lib.hid hib
          clear hib
          rintro e w9 ⟨v, rfl, hv, h1, hu⟩
          obtain ⟨Cv, cc, rfl, hv1⟩ : ∃ A c, v = .slice A (cs2 k').st.length c ∧ Rd w9 (.slice A (cs2 k').st.length c) (cs2 k').st := by
            obtain ⟨A, c, e, h⟩ := hv
            exact ⟨A, c, e, ⟨A, c, rfl, h⟩⟩
          have hf := sink_fresh2 h1 (hSD _ _) #[Value.int .i64 (cs2 k').pos, .slice Cv (cs2 k').st.length cc, .bool ib] hcpne hq
          have HL10 := Lib.hid hf.1
          have HRv := Lib.hid (hf.2 _ _ hv1)
          have HRw10 := Lib.hid ((HRw.out.u hu).u hf.2)
          have hgc := hf.1.drop.drop.blk
          have harr := hf.1.drop.drop.drop.arr.1
          clear h1 hu hv hf hv1 hload HL HRw hn1
          dsimp only
          go_wp2_with fail
          generalize w9.alloc (Obj.cells #[Value.int .i64 (cs2 k').pos, .slice Cv (cs2 k').st.length cc, .bool ib] 34) = w10 at *
          have y0 := (blk_cell hgc 0).trans (show _ = some (Value.int .i64 (cs2 k').pos) from rfl)
          have y1 := (blk_cell hgc 1).trans (show _ = some (Value.slice Cv (cs2 k').st.length cc) from rfl)
          have y2 := (blk_cell hgc 2).trans (show _ = some (Value.bool ib) from rfl)
          have z0 := harr (k' * 3) (by omega)
          have z1 := harr (k' * 3 + 1) (by omega)
          have z2 := harr (k' * 3 + 2) (by omega)
          rw [wcell0] at z0
          rw [wcell1] at z1
          rw [wcell2, Hib.out] at z2
          clear hgc harr
          generalize w9.heap.size = gc at *
          go_wp2_with fail
          go_still_tail 8, (by kernel_rfl)
          change wpList _ _ _ _ _ w10.drew
          have hd10 : Below w10.heap.size w10 w10.drew := (Below.refl _ _).drew
          have hf := HL10.out.less (OLe.tail (OLe.tail (OLe.behind _ _)))
          have hf2 := hf.below (hSD _ _) hd10
          have HL11 := Lib.hid hf2.1
          have HRv11 := Lib.hid (hf2.2 _ _ HRv.out)
          have HRw11 := Lib.hid (HRw10.out.u hf2.2)
          clear y0 y1 y2 z0 z1 z2 hd10 hf hf2 HL10 HRv HRw10
          generalize w10.drew = w11 at *
          go_wp2_with fail
          refine (same32_calls HRv11.out (HRw11.out k') (cs2 k').pos (cs2 k').pos ib ib).mono ?_
          rw [sameB_refl]
          rintro e w12 ⟨rfl, hb⟩
          have hf := HL11.out.below (hSD _ _) hb
          have HL12 := Lib.hid hf.1
          have HRw12 := Lib.hid (HRw11.out.u hf.2)
          clear hf hb HL11 HRv11 HRw11
          dsimp only
          go_wp2_with fail
          refine ⟨⟨k' + 1, by go_num, by omega, HL12.out, HRw12.out⟩, by simp [intOf]; omega⟩
end Go.Proofs.Ytalnhdeckdakfaa.Dev
