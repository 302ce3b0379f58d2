/-
  CheckpointKeeps, walked: the law's function returns true and writes nothing elder.
-/
import Derived.Test.YtalnhdeckdakfaaLEvery32
import Derived.Test.YtalnhdeckdakfaaCkS
import Derived.Deep.RegionHeld3
import Derived.Deep.CutRange
namespace Go.Proofs.Ytalnhdeckdakfaa.Dev
open Go.RowKit Go.Proofs Co
set_option linter.unusedVariables false
set_option linter.unusedSectionVars false
set_option linter.unusedSimpArgs false
variable [Bs]

theorem tbytes_BL (xs : List Int) (i n : Nat) {k : Int} (hk : 1 ≤ k ∧ k ≤ 256) : BL (tbytes xs i n k) := by
  intro x hx
  unfold tbytes at hx
  obtain ⟨j, _, rfl⟩ := List.mem_map.1 hx
  have := tnext_range xs (i + j) hk.1
  omega
/-- what stands in the list between the rounds -/
structure KI (m : Nat) (c : CP) (st : DS) : Prop where
  clean : Clean m st
  fuse : st.fuse = 0
  at_ : At kC c st.dur
  turn : c.turn ≤ m
  pos : c.pos ≤ 2 * m
  len : c.st.length ≤ 20
theorem KI.new : KI 0 CP.zero DS.new := ⟨Clean.new, rfl, At.new kC, Nat.le_refl _, Nat.le_refl _, by simp [CP.zero]⟩

set_option maxHeartbeats 40000000 in
set_option maxRecDepth 100000 in
theorem keeps32_walk {w : World} (hB : Bs.n = w.heap.size) {lv : Value} {xs : List Int} (hl : RdI w lv xs) :
    Calls Try.prog 5 #[lv] w fun e w' => e = .returned (.bool true) ∧ Below w.heap.size w w' := by
  have Hl := Lib.hid hl
  obtain ⟨A0, c0, rfl, _⟩ := hl
  have hq : Bs.n ≤ w.heap.size := Nat.le_of_eq hB
  have hT := fun i => stable_tape w w.heap.size xs i
  have hR := fun g p A n c b => (stable_blk g #[Value.int .i64 p, .slice A n c, .bool b] 34).star stable_emp
  have hcpne : 34 ≠ 5 := by decide
  go_enter Try.func5, Try.ntmps5
  go_wp2_with fail
  have h0 := tape_L hB Hl.out
  refine (new_L ((hT 0).star stable_emp) hq h0.1).mono ?_
  rintro e w1 ⟨d, rfl, h1, hu1⟩
  have HL1 := Lib.hid h1
  clear h0 h1 hu1
  go_wp2_with fail
  refine (known32_L ((stable_dev d _).star ((hT _).star stable_emp)) hq HL1.out).mono ?_
  rintro e w2 ⟨rfl, h1, hu⟩
  have HL2 := Lib.hid (blk_fresh ((stable_dev d _).star ((hT _).star stable_emp)) h1 #[Value.int .i64 0, .slice none 0 0, .bool false] hcpne hq).1.sink.rot
  clear h1 hu HL1
  go_wp2_with fail
  have hS1 := fun d st g p A n c b => (stable_dev d st).star (hR g p A n c b)
  refine (next_L (hS1 _ _ _ _ _ _ _ _) hq HL2.out (by omega) 14 (by omega)).mono ?_
  rintro e w3 ⟨rfl, h1, hu⟩
  have HL3 := Lib.hid h1
  clear h1 hu HL2
  have hr := tnext_range xs 0 (show (1 : Int) ≤ 14 by omega)
  obtain ⟨n, hny⟩ : ∃ n : Nat, tnext xs 0 14 = n := ⟨(tnext xs 0 14).toNat, by omega⟩
  rw [hny] at hr ⊢
  have hn13 : n ≤ 13 := by omega
  clear hny hr
  go_wp2
  go_loopw [5, 6] (fun lv k wr => ∃ (q i m g : Nat) (c : CP) (st : DS) (A : Option Addr) (cp : Nat) (is : Bool), k = .int .i64 q ∧ lv = .slice (some ⟨g, 0, none⟩) 1 1 ∧
    LS w (star (TapeO w w.heap.size xs i) (star (DevO d st) (star (BlkO g #[Value.int .i64 c.pos, .slice A c.st.length cp, .bool is] 34) emp))) wr ∧ Rd wr (.slice A c.st.length cp) c.st ∧ KI m c st ∧ is = decide (c.turn ≠ 0) ∧ m + q ≤ 14 ∧ i + 100 * q ≤ 10000)
    (fun _ k _ => (intOf k).toNat)
  case atStart => exact ⟨n, 1, 0, w2.heap.size, CP.zero, DS.new, none, 0, false, rfl, rfl, HL3.out, Rd.nil _, KI.new, rfl, by omega, by omega⟩
  case round =>
    obtain ⟨q, i, m, g, c, st, A, cp, is, rfl, rfl, hL, hrd, hK, his, hm, hi⟩ := hrel
    have HL := Lib.hid hL
    have HRd := Lib.hid hrd
    have HK := Lib.hid hK
    have His := Lib.hid his
    clear hL hrd hK his HL3
    by_cases h0 : 0 < q
    rotate_left
    · have hq0 : q = 0 := by omega
      subst hq0
      go_wp2
      go_ret
      exact ⟨rfl, HL.out.end hB⟩
    have hg := HL.out.drop.drop.blk
    have x0 := (blk_cell hg 0).trans (show _ = some (Value.int .i64 c.pos) from rfl)
    have x1 := (blk_cell hg 1).trans (show _ = some (Value.slice A c.st.length cp) from rfl)
    have x2 := (blk_cell hg 2).trans (show _ = some (Value.bool is) from rfl)
    have hgB : g ≠ wr.heap.size := by
      have := (Array.getElem?_eq_some_iff.1 hg).1
      omega
    clear hg
    have hbl := lit_below wr _ (Nat.le_refl _) (Obj.cells #[.int .i64 c.pos, .slice A c.st.length cp, .bool is] 34)
    have y0 := cell_of_below hbl x0
    have y1 := cell_of_below hbl x1
    have y2 := cell_of_below hbl x2
    clear hbl
    go_wp2_with fail
    refine wp_loop_rounds 3 ?_
    rw [rounds_succ]
    go_wp2_with fail
    go_quiet (fail)
    have hd0 : decide ((c.pos : Int) ≤ (c.pos : Int)) = true := decide_eq_true (Int.le_refl _)
    go_wp2_with fail
    rw [rounds_succ]
    go_wp2_with fail
    have hf0 := blk_fresh ((hT i).star (hS1 d st g c.pos A c.st.length cp is)) HL.out #[Value.int .i64 c.pos, .slice A c.st.length cp, .bool is] hcpne hq
    have hf1 := hf0.1.below ((stable_blk _ _ _).star ((hT i).star (hS1 d st g c.pos A c.st.length cp is))) (below_drewN' (Below.refl _ _) nq)
    have hf2 := LS.set3 ((hT i).star (hS1 d st g c.pos A c.st.length cp is)) hf1.1 (Value.int .i64 c.pos) (.slice A c.st.length cp) (.bool is)
    have hL15 := hf2.1.sink
    have hR15 := ((hf0.2.trans hf1.2).trans hf2.2) _ _ HRd.out
    clear hf0 hf1 hf2 y0 y1 y2 x0 x1 x2 HL HRd
    generalize ((((wr.alloc (Obj.cells #[Value.int .i64 c.pos, .slice A c.st.length cp, .bool is] 34)).drewN nq).setCell ⟨wr.heap.size, 0, none⟩ (Value.int .i64 c.pos)).setCell ⟨wr.heap.size, 1, none⟩ (.slice A c.st.length cp)).setCell ⟨wr.heap.size, 2, none⟩ (.bool is) = W15 at *
    have hx := blk_cell hL15.drop.drop.blk 0
    generalize wr.heap.size = gl at *
    go_cut [9] from 54 to 66 (fun x wx => ∃ (gx i' : Nat) (r : Int) (bs : List Int) (B : Option Addr) (cq : Nat), x = .pointer (some ⟨gx, 0, none⟩) ∧ 0 ≤ r ∧ r ≤ 2 ∧ bs.length ≤ 19 ∧ BL bs ∧ i' ≤ i + 25 ∧
      LS w (star (TapeO w w.heap.size xs i') (star (DevO d st) (star (BlkO gx #[Value.int .i64 (c.pos + r), .slice B bs.length cq, .bool true] 34) (star (BlkO gl #[Value.int .i64 c.pos, .slice A c.st.length cp, .bool is] 34) (star (BlkO g #[Value.int .i64 c.pos, .slice A c.st.length cp, .bool is] 34) emp))))) wx ∧
      Rd wx (.slice B bs.length cq) bs ∧ Rd wx (.slice A c.st.length cp) c.st)
    case first =>
      have hd15 : Below W15.heap.size W15 W15.drew := (Below.refl _ _).drew
      have hL15d := (hL15.below ((hT i).star ((stable_dev d st).star ((stable_blk gl _ _).star (hR g c.pos A c.st.length cp is)))) hd15).1
      have hR15d := U8.below hd15 _ _ hR15
      have hxd : W15.drew.cell? ⟨gl, 0, none⟩ = some (.int .i64 c.pos) := hx
      have hz15 := sink_fresh2 hL15 ((hT i).star ((stable_dev d st).star ((stable_blk gl _ _).star (hR g c.pos A c.st.length cp is)))) #[Value.int .i64 0, .slice none 0 0, .bool false] hcpne hq
      have hLa := (hz15.1.below ((hT i).star ((stable_dev d st).star ((stable_blk _ _ _).star ((stable_blk gl _ _).star (hR g c.pos A c.st.length cp is))))) (Below.refl _ _).drew).1
      have hRa := (hz15.2.trans (U8.below (Below.refl _ _).drew)) _ _ hR15
      have hxa := blk_cell hLa.drop.drop.drop.blk 0
      clear hL15 hR15 hd15 hz15
      have hr20 := tnext_range xs (i + 1) (show (1 : Int) ≤ 20 by omega)
      obtain ⟨n20, hn20⟩ : ∃ n : Nat, tnext xs (i + 1) 20 = n := ⟨(tnext xs (i + 1) 20).toNat, by omega⟩
      obtain ⟨k4, hk4⟩ : ∃ k : Int, 1 + tnext xs (i + 1 + 1) 4 = k := ⟨_, rfl⟩
      have hr4 := tnext_range xs (i + 1 + 1) (show (1 : Int) ≤ 4 by omega)
      have hr3 := tnext_range xs i (show (1 : Int) ≤ 3 by omega)
      have hpos := HK.out.pos
      have hwk : IntKind.i64.wrap k4 = k4 := by rw [IntKind.wrap_i64]; omega
      have hwp : IntKind.i64.wrap ((c.pos : Int) + tnext xs i 3) = (c.pos : Int) + tnext xs i 3 := by rw [IntKind.wrap_i64]; omega
      go_region_held3 (fun w' => w'.cell? ⟨gl, 0, none⟩ = some (.int .i64 c.pos))
        (first | assumption | exact cell_of_below (lit_below _ _ (Nat.le_refl _) _) (by with_reducible assumption) | exact blk_cell (set3_deep h (by (repeat' (first | exact stable_emp | exact stable_dev _ _ | exact stable_blk _ _ _ | exact stable_tape _ _ _ _ | refine Stable.star ?_ ?_))) _ _ _).1.drop.drop.drop.blk 0 | go_keep)
        (first
          | (go_at_call 13
             refine next_K (w00 := w) (xs := xs) (i := ?_) (B := ?_) ?_ ?_ hq ?_ ?_ ?_
             rotate_left 2
             · with_reducible assumption
             · (repeat' (first | exact stable_emp | exact stable_dev _ _ | exact stable_blk _ _ _ | exact stable_tape _ _ _ _ | refine Stable.star ?_ ?_))
             · omega
             · omega
             intro w' h hu
             dsimp only
             try rw [hn20]
             have hk : w'.cell? ⟨gl, 0, none⟩ = some (.int .i64 c.pos) := by first | exact (blk_cell h.drop.drop.blk 0) | exact (blk_cell h.drop.drop.drop.blk 0)
             have hr : Rd w' (.slice A c.st.length cp) c.st := hu _ _ (by first | with_reducible assumption | exact U8.below (lit_below _ _ (Nat.le_refl _) _) _ _ (by with_reducible assumption))
             try (have g0 := (blk_cell h.drop.drop.blk 0).trans (show _ = some (Value.int .i64 0) from rfl); have g1 := (blk_cell h.drop.drop.blk 1).trans (show _ = some (Value.slice none 0 0) from rfl); have g2 := (blk_cell h.drop.drop.blk 2).trans (show _ = some (Value.bool false) from rfl); have k0 := blk_frozen h.drop.drop.blk 0; have k1 := blk_frozen h.drop.drop.blk 1; have k2 := blk_frozen h.drop.drop.blk 2))
          | (go_at_call 13
             refine next_K (w00 := w) (xs := xs) (i := ?_) (B := ?_) ?_ ?_ hq ?_ ?_ ?_
             rotate_left 2
             · refine sink_fresh (T := ?_) (D := ?_) (R := ?_) ?_ ?_ #[Value.int .i64 0, .slice none 0 0, .bool false] hcpne hq
               rotate_left 2
               · with_reducible assumption
               · (repeat' (first | exact stable_emp | exact stable_dev _ _ | exact stable_blk _ _ _ | exact stable_tape _ _ _ _ | refine Stable.star ?_ ?_))
             · (repeat' (first | exact stable_emp | exact stable_dev _ _ | exact stable_blk _ _ _ | exact stable_tape _ _ _ _ | refine Stable.star ?_ ?_))
             · omega
             · omega
             intro w' h hu
             dsimp only
             try rw [hn20]
             have hk : w'.cell? ⟨gl, 0, none⟩ = some (.int .i64 c.pos) := by first | exact (blk_cell h.drop.drop.blk 0) | exact (blk_cell h.drop.drop.drop.blk 0)
             have hr : Rd w' (.slice A c.st.length cp) c.st := hu _ _ (by first | with_reducible assumption | exact U8.below (lit_below _ _ (Nat.le_refl _) _) _ _ (by with_reducible assumption))
             try (have g0 := (blk_cell h.drop.drop.blk 0).trans (show _ = some (Value.int .i64 0) from rfl); have g1 := (blk_cell h.drop.drop.blk 1).trans (show _ = some (Value.slice none 0 0) from rfl); have g2 := (blk_cell h.drop.drop.blk 2).trans (show _ = some (Value.bool false) from rfl); have k0 := blk_frozen h.drop.drop.blk 0; have k1 := blk_frozen h.drop.drop.blk 1; have k2 := blk_frozen h.drop.drop.blk 2))
          | (go_at_call 14
             refine bytes_K (w00 := w) (xs := xs) (i := ?_) (B := ?_) ?_ ?_ hq ?_ ?_ ?_ ?_
             rotate_left 2
             · with_reducible assumption
             · (repeat' (first | exact stable_emp | exact stable_dev _ _ | exact stable_blk _ _ _ | exact stable_tape _ _ _ _ | refine Stable.star ?_ ?_))
             · omega
             · omega
             · omega
             intro Bv cv w' hv h hu
             dsimp only
             try rw [hn20]
             have hk : w'.cell? ⟨gl, 0, none⟩ = some (.int .i64 c.pos) := by first | exact (blk_cell h.drop.drop.blk 0) | exact (blk_cell h.drop.drop.drop.blk 0)
             have hr : Rd w' (.slice A c.st.length cp) c.st := hu _ _ (by first | with_reducible assumption | exact U8.below (lit_below _ _ (Nat.le_refl _) _) _ _ (by with_reducible assumption))
             try (have g0 := (blk_cell h.drop.drop.blk 0).trans (show _ = some (Value.int .i64 0) from rfl); have g1 := (blk_cell h.drop.drop.blk 1).trans (show _ = some (Value.slice none 0 0) from rfl); have g2 := (blk_cell h.drop.drop.blk 2).trans (show _ = some (Value.bool false) from rfl); have k0 := blk_frozen h.drop.drop.blk 0; have k1 := blk_frozen h.drop.drop.blk 1; have k2 := blk_frozen h.drop.drop.blk 2))
          | (go_at_call 14
             refine bytes_K (w00 := w) (xs := xs) (i := ?_) (B := ?_) ?_ ?_ hq ?_ ?_ ?_ ?_
             rotate_left 2
             · refine sink_fresh (T := ?_) (D := ?_) (R := ?_) ?_ ?_ #[Value.int .i64 0, .slice none 0 0, .bool false] hcpne hq
               rotate_left 2
               · with_reducible assumption
               · (repeat' (first | exact stable_emp | exact stable_dev _ _ | exact stable_blk _ _ _ | exact stable_tape _ _ _ _ | refine Stable.star ?_ ?_))
             · (repeat' (first | exact stable_emp | exact stable_dev _ _ | exact stable_blk _ _ _ | exact stable_tape _ _ _ _ | refine Stable.star ?_ ?_))
             · omega
             · omega
             · omega
             intro Bv cv w' hv h hu
             dsimp only
             try rw [hn20]
             have hk : w'.cell? ⟨gl, 0, none⟩ = some (.int .i64 c.pos) := by first | exact (blk_cell h.drop.drop.blk 0) | exact (blk_cell h.drop.drop.drop.blk 0)
             have hr : Rd w' (.slice A c.st.length cp) c.st := hu _ _ (by first | with_reducible assumption | exact U8.below (lit_below _ _ (Nat.le_refl _) _) _ _ (by with_reducible assumption))
             try (have g0 := (blk_cell h.drop.drop.blk 0).trans (show _ = some (Value.int .i64 0) from rfl); have g1 := (blk_cell h.drop.drop.blk 1).trans (show _ = some (Value.slice none 0 0) from rfl); have g2 := (blk_cell h.drop.drop.blk 2).trans (show _ = some (Value.bool false) from rfl); have k0 := blk_frozen h.drop.drop.blk 0; have k1 := blk_frozen h.drop.drop.blk 1; have k2 := blk_frozen h.drop.drop.blk 2))
          )
      all_goals (go_wp2; go_meet)
      all_goals
        (case rel =>
          first
            | (have hfin := set3_deep h (by (repeat' (first | exact stable_emp | exact stable_dev _ _ | exact stable_blk _ _ _ | exact stable_tape _ _ _ _ | refine Stable.star ?_ ?_))) (Value.int .i64 (c.pos + tnext xs i 3)) (.slice Bv n20 cv) (.bool true)
               exact ⟨_, i + 1 + 1 + 1 + n20, tnext xs i 3, tbytes xs (i + 1 + 1 + 1) n20 k4, Bv, cv, rfl, by omega, by omega, by rw [tbytes_len]; omega, tbytes_BL xs _ n20 (by omega), by omega, by rw [tbytes_len]; exact hfin.1, by rw [tbytes_len]; exact hfin.2 _ _ hv, hfin.2 _ _ hr⟩)
            | (have hfin := sink_fresh2 h (by (repeat' (first | exact stable_emp | exact stable_dev _ _ | exact stable_blk _ _ _ | exact stable_tape _ _ _ _ | refine Stable.star ?_ ?_))) #[Value.int .i64 (c.pos + tnext xs i 3), .slice Bv n20 cv, .bool true] hcpne hq
               exact ⟨_, i + 1 + 1 + 1 + n20, tnext xs i 3, tbytes xs (i + 1 + 1 + 1) n20 k4, Bv, cv, rfl, by omega, by omega, by rw [tbytes_len]; omega, tbytes_BL xs _ n20 (by omega), by omega, by rw [tbytes_len]; exact hfin.1, by rw [tbytes_len]; exact hfin.2 _ _ hv, hfin.2 _ _ hr⟩))
    case rest =>
      obtain ⟨gx, i', r, bs, B, cq, rfl, hr0, hr2, hbl, hbb, hi', hL, hRx, hRc⟩ := hcut
      have HL := Lib.hid hL
      have HRx := Lib.hid hRx
      have HRc := Lib.hid hRc
      have Hbb := Lib.hid hbb
      have hSR : Stable (star (BlkO gx #[Value.int .i64 (c.pos + r), .slice B bs.length cq, .bool true] 34) (star (BlkO gl #[Value.int .i64 c.pos, .slice A c.st.length cp, .bool is] 34) (star (BlkO g #[Value.int .i64 c.pos, .slice A c.st.length cp, .bool is] 34) emp))) := (stable_blk _ _ _).star ((stable_blk _ _ _).star (hR g c.pos A c.st.length cp is))
      generalize hRR : (star (BlkO gl #[Value.int .i64 c.pos, .slice A c.st.length cp, .bool is] 34) (star (BlkO g #[Value.int .i64 c.pos, .slice A c.st.length cp, .bool is] 34) emp)) = RR at *
      have hgo : OLe RR (star (BlkO g #[Value.int .i64 c.pos, .slice A c.st.length cp, .bool is] 34) emp) := by
        subst hRR
        rintro w S ⟨S1, S2, h1, h2, hd, hs⟩
        exact ⟨S2, h2, fun i hi => (hs i).2 (.inr hi)⟩
      have Hgo := Lib.hid hgo
      clear hL hRx hRc hbb hRR hgo hL15 hR15 hx
      go_wp2_with fail
      refine next_K HL.out ((stable_dev d st).star hSR) hq (by omega) (by omega) ?_
      intro w4 h4 hu4
      have HL4 := Lib.hid h4
      have HRx4 := Lib.hid (hu4 _ _ HRx.out)
      have HRc4 := Lib.hid (hu4 _ _ HRc.out)
      clear h4 hu4 HL HRx HRc
      have hrt := tnext_range xs i' (show (1 : Int) ≤ 3 by omega)
      generalize tnext xs i' 3 = t3 at *
      dsimp only
      go_upto_if 69 with fail
      go_cut [] from 70 to 74 (fun wx => ∃ (st1 : DS) (i1 : Nat), i1 ≤ i' + 2 ∧ Clean m st1 ∧ At kC c st1.dur ∧ LS w (star (TapeO w w.heap.size xs i1) (star (DevO d st1) (star (BlkO gx #[Value.int .i64 (c.pos + r), .slice B bs.length cq, .bool true] 34) RR))) wx ∧
        Rd wx (.slice B bs.length cq) bs ∧ Rd wx (.slice A c.st.length cp) c.st)
      case first =>
        by_cases ht3 : 0 < t3
        · go_wp2_with fail
          refine next_K HL4.out ((stable_dev d st).star hSR) hq (by omega) (by omega) ?_
          intro w5 h5 hu5
          have HL5 := Lib.hid h5.rot
          have HRx5 := Lib.hid (hu5 _ _ HRx4.out)
          have HRc5 := Lib.hid (hu5 _ _ HRc4.out)
          clear h5 hu5 HL4 HRx4 HRc4
          have hrt := tnext_range xs (i' + 1) (show (1 : Int) ≤ 7 by omega)
          generalize tnext xs (i' + 1) 7 = t7 at *
          dsimp only
          go_wp2_with fail
          refine (fuse_L ((hT _).star hSR) HL5.out (n := 1 + t7) (st' := st.setFuse (1 + t7)) rfl).mono ?_
          rintro e w6 ⟨rfl, h1, hu⟩
          have HL6 := Lib.hid h1.rot
          have HRx6 := Lib.hid (hu _ _ HRx5.out)
          have HRc6 := Lib.hid (hu _ _ HRc5.out)
          clear h1 hu HL5 HRx5 HRc5
          dsimp only
          go_wp2
          go_meet
          case rel => exact ⟨st.setFuse (1 + t7), i' + 1 + 1, by omega, HK.out.clean.fuse (by omega), HK.out.at_, HL6.out, HRx6.out, HRc6.out⟩
        · go_wp2
          go_meet
          case rel => exact ⟨st, i' + 1, by omega, HK.out.clean, HK.out.at_, HL4.out, HRx4.out, HRc4.out⟩
      case rest =>
        obtain ⟨st1, i1, hi1, hC1, hA1, hL, hRx, hRc⟩ := hcut
        have ht := HK.out.turn
        have hpp := HK.out.pos
        have hpN : ((c.pos : Int) + r).toNat = c.pos + r.toNat := by omega
        obtain ⟨how, f, s2, _⟩ := save_clean hC1 (by omega) vC hA1 (by omega) (pos := (c.pos : Int) + r) (by omega) (by omega) (by omega) (b := bs) (by omega)
        have lost := fun keep torn => saved_lost hC1 hA1 (by omega) (by omega) (by omega) Hbb.out s2 keep torn
        have hok := hC1.ok.save kC (c.pos + r) bs
        have hbk := hC1.b.save kC (c.pos + r) Hbb.out
        rw [s2] at hok hbk
        have hpl := saved_pend st1 kC ⟨c.turn + 1, ((c.pos : Int) + r).toNat, bs⟩ how f
        have hz : how = 0 → Clean (m + 1) (saved st1 kC ⟨c.turn + 1, ((c.pos : Int) + r).toNat, bs⟩ how f) ∧ At kC ⟨c.turn + 1, ((c.pos : Int) + r).toNat, bs⟩ (saved st1 kC ⟨c.turn + 1, ((c.pos : Int) + r).toNat, bs⟩ how f).dur := fun h0 => by
          refine ⟨saved_ok hC1 s2 Hbb.out h0, ?_⟩
          subst h0
          exact saved_at hA1 (by omega) (by omega) (by omega) f
        obtain ⟨er, her⟩ : ∃ er : Int, er = if how = 0 then 0 else 303 := ⟨_, rfl⟩
        rw [← her] at s2
        have Hs2 := Lib.hid s2
        have Her := Lib.hid her
        have Hz := Lib.hid hz
        have Lost := Lib.hid lost
        have HOk := Lib.hid hok
        have HC1 := Lib.hid hC1
        have HL := Lib.hid hL.rot
        have HRx5 := Lib.hid hRx
        have HRc5 := Lib.hid hRc
        have hg := hL.drop.drop.blk
        have x0 := (blk_cell hg 0).trans (show _ = some (Value.int .i64 (c.pos + r)) from rfl)
        have x1 := (blk_cell hg 1).trans (show _ = some (Value.slice B bs.length cq) from rfl)
        have x2 := (blk_cell hg 2).trans (show _ = some (Value.bool true) from rfl)
        clear s2 her hz lost hok hC1 hL hRx hRc hA1 hbk hg HL4 HRx4 HRc4
        go_wp2_with fail
        refine (save_L ((hT _).star hSR) hq HL.out Hs2.out HC1.out.ok (by rw [HC1.out.pend]; exact leb (by kernel_rfl)) HC1.out.b sz0 (by omega) HRx5.out (by omega)).mono ?_
        rintro e w7 ⟨rfl, h1, hu⟩
        have HL7 := Lib.hid h1
        have HRx7 := Lib.hid (hu _ _ HRx5.out)
        have HRc7 := Lib.hid (hu _ _ HRc5.out)
        clear h1 hu HL HRx5 HRc5 x0 x1 x2
        generalize saved st1 kC ⟨c.turn + 1, ((c.pos : Int) + r).toNat, bs⟩ how f = st3 at *
        dsimp only
        go_wp2_with fail
        refine (fuse_L ((hT _).star hSR) HL7.out (n := 0) (st' := st3.setFuse 0) rfl).mono ?_
        rintro e w8 ⟨rfl, h1, hu⟩
        have HL8 := Lib.hid h1
        have HRx8 := Lib.hid (hu _ _ HRx7.out)
        have HRc8 := Lib.hid (hu _ _ HRc7.out)
        have hg := h1.drop.drop.blk
        have x0 := (blk_cell hg 0).trans (show _ = some (Value.int .i64 (c.pos + r)) from rfl)
        have x1 := (blk_cell hg 1).trans (show _ = some (Value.slice B bs.length cq) from rfl)
        have x2 := (blk_cell hg 2).trans (show _ = some (Value.bool true) from rfl)
        clear h1 hu HL7 HRx7 HRc7 hg
        dsimp only
        have her := Her.out
        by_cases h0 : how = 0
        · rw [if_pos h0] at her
          subst her
          obtain ⟨hZ1, hZ2⟩ := Hz.out h0
          go_wp2_with fail
          have hL9 := (sink_fresh2 HL8.out ((stable_dev d _).star ((hT i1).star hSR)) #[Value.int .i64 (c.pos + r), .slice B bs.length cq, .bool true] hcpne hq)
          have HL9 := Lib.hid ((hL9.1.less (OLe.tail (OLe.tail (OLe.tail (OLe.emp _))))).rot)
          have HRx9 := Lib.hid (hL9.2 _ _ HRx8.out)
          clear hL9 HL8 HRx8 HRc8 x0 x1 x2
          generalize w8.alloc (Obj.cells #[Value.int .i64 (c.pos + r), .slice B bs.length cq, .bool true] 34) = w9 at *
          generalize w8.heap.size = g2 at *
          have hST := fun st => (stable_dev d st).star (hR g2 (c.pos + r) B bs.length cq true)
          refine next_K HL9.out (hST _) hq (by omega) (by omega) ?_
          intro w10 h10 hu10
          have HL10 := Lib.hid h10
          have HRx10 := Lib.hid (hu10 _ _ HRx9.out)
          clear h10 hu10 HL9 HRx9
          dsimp only
          generalize tnext xs i1 2 = t2 at *
          go_upto_if 99 with fail
          go_cut [] from 100 to 110 (fun wx => ∃ (st' : DS) (i2 : Nat), i2 ≤ i1 + 5 ∧ KI (m + 1) ⟨c.turn + 1, ((c.pos : Int) + r).toNat, bs⟩ st' ∧ LS w (star (TapeO w w.heap.size xs i2) (star (DevO d st') (star (BlkO g2 #[Value.int .i64 (c.pos + r), .slice B bs.length cq, .bool true] 34) emp))) wx ∧
            Rd wx (.slice B bs.length cq) bs)
          case first =>
            by_cases ht2 : t2 = 0
            · have ht2' : (t2 == 0) = true := by simpa using ht2
              subst ht2
              go_wp2_with fail
              refine next_K HL10.out (hST _) hq (by omega) (by omega) ?_
              intro w11 h11 hu11
              have HL11 := Lib.hid h11
              have HRx11 := Lib.hid (hu11 _ _ HRx10.out)
              clear h11 hu11 HL10 HRx10
              have hrk := tnext_range xs (i1 + 1) (show (1 : Int) ≤ 6 by omega)
              generalize tnext xs (i1 + 1) 6 = kp at *
              dsimp only
              go_wp2_with fail
              refine next_K HL11.out (hST _) hq (by omega) (by omega) ?_
              intro w12 h12 hu12
              have HL12 := Lib.hid h12.rot
              have HRx12 := Lib.hid (hu12 _ _ HRx11.out)
              clear h12 hu12 HL11 HRx11
              have hrk2 := tnext_range xs (i1 + 1 + 1) (show (1 : Int) ≤ 40 by omega)
              generalize tnext xs (i1 + 1 + 1) 40 = tn at *
              dsimp only
              go_wp2_with fail
              refine (lose_L ((hT _).star (hR g2 (c.pos + r) B bs.length cq true)) HL12.out (st' := st3.lose (kp - 1) (tn - 1)) rfl hq (by show st3.pend.length ≤ 100000; omega) ((HOk.out.setFuse (by omega)).fits_kept _ _)).mono ?_
              rintro e w13 ⟨rfl, h1, hu⟩
              have HL13 := Lib.hid h1
              have HRx13 := Lib.hid (hu _ _ HRx12.out)
              clear h1 hu HL12 HRx12
              dsimp only
              go_wp2_with fail
              refine (restart_L ((hT _).star (hR g2 (c.pos + r) B bs.length cq true)) HL13.out (st' := (st3.lose (kp - 1) (tn - 1)).restart) rfl).mono ?_
              rintro e w14 ⟨rfl, h1, hu⟩
              have HL14 := Lib.hid h1.rot
              have HRx14 := Lib.hid (hu _ _ HRx13.out)
              clear h1 hu HL13 HRx13
              dsimp only
              go_wp2
              go_meet
              case rel =>
                obtain ⟨L1, c', L2, L3⟩ := Lost.out (kp - 1) (tn - 1)
                have hce : c' = ⟨c.turn + 1, ((c.pos : Int) + r).toNat, bs⟩ := by
                  rcases L3 with L3 | L3
                  · exact L3
                  · exact absurd h0 L3.1
                subst hce
                exact ⟨(st3.lose (kp - 1) (tn - 1)).restart, i1 + 1 + 1 + 1, by omega, ⟨L1, rfl, L2, by show c.turn + 1 ≤ m + 1; omega, by show ((c.pos : Int) + r).toNat ≤ 2 * (m + 1); omega, by show bs.length ≤ 20; omega⟩, HL14.out, HRx14.out⟩
            · have ht2' : (t2 == 0) = false := by simpa using ht2
              go_wp2
              go_meet
              case rel =>
                exact ⟨st3.setFuse 0, i1 + 1, by omega, ⟨hZ1.fuse (by omega), rfl, hZ2, by show c.turn + 1 ≤ m + 1; omega, by show ((c.pos : Int) + r).toNat ≤ 2 * (m + 1); omega, by show bs.length ≤ 20; omega⟩, HL10.out, HRx10.out⟩
          case rest =>
            obtain ⟨st', i2, hi2, hK', hL, hRx⟩ := hcut
            have HL := Lib.hid hL.rot
            have HRx := Lib.hid hRx
            have HK' := Lib.hid hK'
            have hload := load_clean hK'.clean vC hK'.at_
            rw [if_neg (by show ¬ c.turn + 1 = 0; omega)] at hload
            clear hL hRx hK' HL10 HRx10
            go_wp2_with fail
            refine (load32_L ((hT _).star (hR g2 (c.pos + r) B bs.length cq true)) hq HL.out HK'.out.clean.ok HK'.out.clean.b sz0).mono ?_
            rw [hload]
            rintro e w12 ⟨v, rfl, hv, h1, hu⟩
            have hpN : (((c.pos : Int) + r).toNat : Int) = c.pos + r := by omega
            obtain ⟨Cv, cc, rfl, hv1⟩ : ∃ A c, v = .slice A bs.length c ∧ Rd w12 (.slice A bs.length c) bs := by
              obtain ⟨A, c, e, h⟩ := hv
              exact ⟨A, c, e, ⟨A, c, rfl, h⟩⟩
            have hf := sink_fresh2 h1 ((stable_dev d _).star ((hT _).star (hR g2 (c.pos + r) B bs.length cq true))) #[Value.int .i64 (c.pos + r), .slice Cv bs.length cc, .bool true] hcpne hq
            have HL13 := Lib.hid hf.1
            have HRv := Lib.hid (hf.2 _ _ hv1)
            have HRx13 := Lib.hid (hf.2 _ _ (hu _ _ HRx.out))
            clear h1 hu hv hf hv1 hload HL HRx
            rw [hpN]
            dsimp only
            go_wp2_with fail
            refine wp_loop_rounds 3 ?_
            rw [rounds_succ]
            have hgl := HL13.out.drop.drop.drop.blk
            have hgc := HL13.out.drop.drop.blk
            generalize w12.alloc (Obj.cells #[Value.int .i64 (c.pos + r), .slice Cv bs.length cc, .bool true] 34) = w13 at *
            have x0 := (blk_cell hgl 0).trans (show _ = some (Value.int .i64 (c.pos + r)) from rfl)
            have x1 := (blk_cell hgl 1).trans (show _ = some (Value.slice B bs.length cq) from rfl)
            have x2 := (blk_cell hgl 2).trans (show _ = some (Value.bool true) from rfl)
            have y0 := (blk_cell hgc 0).trans (show _ = some (Value.int .i64 (c.pos + r)) from rfl)
            have y1 := (blk_cell hgc 1).trans (show _ = some (Value.slice Cv bs.length cc) from rfl)
            have y2 := (blk_cell hgc 2).trans (show _ = some (Value.bool true) from rfl)
            clear hgl hgc
            generalize w12.heap.size = gc at *
            go_wp2_with fail
            go_still_tail 7, (by kernel_rfl)
            change wpList _ _ _ _ _ w13.drew
            have hd13 : Below w13.heap.size w13 w13.drew := (Below.refl _ _).drew
            have HL14 := Lib.hid (HL13.out.below ((stable_dev d _).star ((hT _).star ((stable_blk _ _ _).star (hR g2 (c.pos + r) B bs.length cq true)))) hd13).1
            have HRv14 := Lib.hid (U8.below hd13 _ _ HRv.out)
            have HRx14 := Lib.hid (U8.below hd13 _ _ HRx13.out)
            clear x0 x1 x2 y0 y1 y2 hd13 HL13 HRv HRx13
            generalize w13.drew = w14 at *
            go_wp2_with fail
            refine (same32_calls HRx14.out HRv14.out (c.pos + r) (c.pos + r) true true).mono ?_
            rw [sameB_refl]
            rintro e w15 ⟨rfl, hb⟩
            have hf := HL14.out.below ((stable_dev d _).star ((hT _).star ((stable_blk _ _ _).star (hR g2 (c.pos + r) B bs.length cq true)))) hb
            have HL15 := Lib.hid hf.1
            have HRv15 := Lib.hid (hf.2 _ _ HRv14.out)
            have hgc := hf.1.drop.drop.blk
            have y0 := (blk_cell hgc 0).trans (show _ = some (Value.int .i64 (c.pos + r)) from rfl)
            have y1 := (blk_cell hgc 1).trans (show _ = some (Value.slice Cv bs.length cc) from rfl)
            have y2 := (blk_cell hgc 2).trans (show _ = some (Value.bool true) from rfl)
            clear hf hb hgc HL14 HRv14 HRx14
            dsimp only
            go_wp2_with fail
            rw [rounds_succ]
            go_wp2_with fail
            have hfin := sink_fresh2 HL15.out ((stable_dev d _).star ((hT _).star ((stable_blk _ _ _).star (hR g2 (c.pos + r) B bs.length cq true)))) #[Value.int .i64 (c.pos + r), .slice Cv bs.length cc, .bool true] hcpne hq
            refine ⟨⟨q - 1, i2, m + 1, w15.heap.size, ⟨c.turn + 1, ((c.pos : Int) + r).toNat, bs⟩, st', Cv, cc, true, by go_num, rfl, ?_, hfin.2 _ _ HRv15.out, HK'.out, by simp, by omega, by omega⟩, by simp [intOf]; omega⟩
            show LS w (star (TapeO w w.heap.size xs i2) (star (DevO d st') (star (BlkO w15.heap.size #[Value.int .i64 ((((c.pos : Int) + r).toNat : Nat) : Int), .slice Cv bs.length cc, .bool true] 34) emp))) _
            rw [hpN]
            exact (hfin.1.less (OLe.tail (OLe.tail (OLe.tail (OLe.emp _))))).rot
        · rw [if_neg h0] at her
          subst her
          have hq1 := ((HL8.out.less (OLe.tail (OLe.tail (OLe.tail Hgo.out)))).le (star_mono (star_mono (star_rot _ _ _)))).rise
          have hq2 := hq1.toRow (n := 1) (s := 3) rfl (by simp [maxLen])
          have hSX : ∀ st i, Stable (star (DevO d st) (star (TapeO w w.heap.size xs i) (star (BlkO gx #[Value.int .i64 (c.pos + r), .slice B bs.length cq, .bool true] 34) emp))) := fun st i => (stable_dev d st).star ((hT i).star (hR gx (c.pos + r) B bs.length cq true))
          have hq3 := hq2.below ((stable_row _ _ _ _ _).star (hSX _ _)) (lit_below w8 _ (Nat.le_refl _) (Obj.cells #[.int .i64 (c.pos + r), .slice B bs.length cq, .bool true] 34))
          have hn9 := heap_alloc_new w8 (Obj.cells #[.int .i64 (c.pos + r), .slice B bs.length cq, .bool true] 34)
          have HQ := Lib.hid hq3.1
          have HRx9 := Lib.hid (hq3.2 _ _ HRx8.out)
          have HRc9 := Lib.hid (hq3.2 _ _ HRc8.out)
          clear hq1 hq2 hq3
          have hinfo : (Try.prog.info? 34).map (fun i => (i.zero, i.size, i.bytes)) = some (some (.agg #[.int .i64 0, .slice none 0 0, .bool false]), 3, 40) := by kernel_rfl
          have hnews : ∀ j u, [Value.int .i64 (c.pos + r), .slice B bs.length cq, .bool true][j]? = some u → (w8.alloc (Obj.cells #[.int .i64 (c.pos + r), .slice B bs.length cq, .bool true] 34)).cell? ((⟨w8.heap.size, 0, none⟩ : Addr).add j) = some u := fun j u hj => by
            rw [add_plain]
            refine (blk_cell hn9 j).trans ?_
            simpa using hj
          have Hnews := Lib.hid hnews
          clear hn9 hnews
          go_wp2_with (at_builtin; refine wpList_append_row (hSX _ _) hq rfl _ _ 30 34 rfl Try.underlying30 hinfo rfl (by decide) _ [Value.int .i64 (c.pos + r), .slice B bs.length cq, .bool true] rfl rfl HQ.out rfl Hnews.out (by intro u hu; simp at hu; rcases hu with rfl | rfl | rfl <;> rfl) (by decide) (by decide) ?_; intro v1 w9 h9 hu9; obtain ⟨g2, c2, hv1, _, _, _, hcl, hfz⟩ := row_addr h9.row (by decide); subst hv1; have HL9 := Lib.hid h9.sink.rot; have HRx10 := Lib.hid (hu9 _ _ HRx9.out); have HRc10 := Lib.hid (hu9 _ _ HRc9.out); clear h9 hu9 hcl hfz)
          have hSW : ∀ v xs', Stable (star (RowO 34 3 v 2 xs') (star (BlkO gx #[Value.int .i64 (c.pos + r), .slice B bs.length cq, .bool true] 34) emp)) := fun v xs' => (stable_row _ _ _ _ _).star (hR gx (c.pos + r) B bs.length cq true)
          refine next_K HL9.out ((stable_dev d _).star (hSW _ _)) hq (by omega) (by omega) ?_
          intro w11 h11 hu11
          have HL11 := Lib.hid h11
          have HRx11 := Lib.hid (hu11 _ _ HRx10.out)
          have HRc11 := Lib.hid (hu11 _ _ HRc10.out)
          clear h11 hu11 HL9 HRx10 HRc10 HQ HRx9 HRc9 Hnews HL8 HRx8 HRc8 x0 x1 x2
          have hrk := tnext_range xs i1 (show (1 : Int) ≤ 6 by omega)
          generalize tnext xs i1 6 = kp at *
          dsimp only
          go_wp2_with fail
          refine next_K HL11.out ((stable_dev d _).star (hSW _ _)) hq (by omega) (by omega) ?_
          intro w12 h12 hu12
          have HL12 := Lib.hid h12.rot
          have HRx12 := Lib.hid (hu12 _ _ HRx11.out)
          have HRc12 := Lib.hid (hu12 _ _ HRc11.out)
          clear h12 hu12 HL11 HRx11 HRc11
          have hrk2 := tnext_range xs (i1 + 1) (show (1 : Int) ≤ 40 by omega)
          generalize tnext xs (i1 + 1) 40 = tn at *
          dsimp only
          go_wp2_with fail
          refine (lose_L ((hT _).star (hSW _ _)) HL12.out (st' := st3.lose (kp - 1) (tn - 1)) rfl hq (by show st3.pend.length ≤ 100000; omega) ((HOk.out.setFuse (by omega)).fits_kept _ _)).mono ?_
          rintro e w13 ⟨rfl, h1, hu⟩
          have HL13 := Lib.hid h1
          have HRx13 := Lib.hid (hu _ _ HRx12.out)
          have HRc13 := Lib.hid (hu _ _ HRc12.out)
          clear h1 hu HL12 HRx12 HRc12
          dsimp only
          go_wp2_with fail
          refine (restart_L ((hT _).star (hSW _ _)) HL13.out (st' := (st3.lose (kp - 1) (tn - 1)).restart) rfl).mono ?_
          rintro e w14 ⟨rfl, h1, hu⟩
          have HL14 := Lib.hid h1
          have HRx14 := Lib.hid (hu _ _ HRx13.out)
          have HRc14 := Lib.hid (hu _ _ HRc13.out)
          clear h1 hu HL13 HRx13 HRc13
          dsimp only
          obtain ⟨L1, c', L2, L3⟩ := Lost.out (kp - 1) (tn - 1)
          have hpN : (((c.pos : Int) + r).toNat : Int) = c.pos + r := by omega
          have hc'1 : c'.turn ≤ m + 1 := by rcases L3 with rfl | ⟨_, rfl⟩; (show c.turn + 1 ≤ m + 1; omega); omega
          have hc'2 : c'.pos ≤ 2 * (m + 1) := by rcases L3 with rfl | ⟨_, rfl⟩; (show ((c.pos : Int) + r).toNat ≤ 2 * (m + 1); omega); omega
          have hc'3 : c'.st.length ≤ 20 := by rcases L3 with rfl | ⟨_, rfl⟩; (show bs.length ≤ 20; omega); exact HK.out.len
          have HK' : Hid (KI (m + 1) c' (st3.lose (kp - 1) (tn - 1)).restart) := Lib.hid ⟨L1, rfl, L2, hc'1, hc'2, hc'3⟩
          have hload := load_at L1 vC L2
          have hsame : sameB c.pos c.st is c'.pos c'.st (decide (c'.turn ≠ 0)) = true ∨ sameB (c.pos + r) bs true c'.pos c'.st (decide (c'.turn ≠ 0)) = true := by
            rcases L3 with rfl | ⟨_, rfl⟩
            · refine .inr ?_
              show sameB (c.pos + r) bs true ((((c.pos : Int) + r).toNat : Nat) : Int) bs (decide (c.turn + 1 ≠ 0)) = true
              rw [hpN]
              simp [sameB]
            · refine .inl ?_
              rw [His.out]
              exact sameB_refl _ _ _
          have Hsame := Lib.hid hsame
          clear L1 L2 L3 hc'1 hc'2 hsame
          generalize (st3.lose (kp - 1) (tn - 1)).restart = st' at *
          go_wp2_with fail
          refine (load32_L ((hT _).star (hSW _ _)) hq HL14.out HK'.out.clean.ok HK'.out.clean.b sz0).mono ?_
          rw [hload]
          generalize hi9 : decide (c'.turn ≠ 0) = is' at *
          have Hi9 := Lib.hid hi9
          clear hi9 hload
          rintro e w15 ⟨v, rfl, hv, h1, hu⟩
          obtain ⟨Cv, cc, rfl, hv1⟩ : ∃ A c, v = .slice A c'.st.length c ∧ Rd w15 (.slice A c'.st.length c) c'.st := by
            obtain ⟨A, c, e, h⟩ := hv
            exact ⟨A, c, e, ⟨A, c, rfl, h⟩⟩
          have hf := sink_fresh2 h1 ((stable_dev d _).star ((hT _).star (hSW _ _))) #[Value.int .i64 c'.pos, .slice Cv c'.st.length cc, .bool is'] hcpne hq
          have HL16 := Lib.hid hf.1
          have HRv := Lib.hid (hf.2 _ _ hv1)
          have HRx := Lib.hid (hf.2 _ _ (hu _ _ HRx14.out))
          have HRc := Lib.hid (hf.2 _ _ (hu _ _ HRc14.out))
          clear h1 hu hv hf hv1 HL14 HRx14 HRc14
          dsimp only
          go_wp2_with fail
          refine wp_loop_rounds 4 ?_
          rw [rounds_succ]
          have hgc := HL16.out.drop.drop.blk
          obtain ⟨g2', c2', he2, _, _, _, hcl, _⟩ := row_addr HL16.out.drop.drop.drop.row (by decide)
          injection he2 with he2 _ _
          injection he2 with he2
          injection he2 with he2
          subst he2
          generalize w15.alloc (Obj.cells #[Value.int .i64 c'.pos, .slice Cv c'.st.length cc, .bool is'] 34) = w16 at *
          have x0 := (hcl 0 (by decide)).trans (show _ = some (Value.int .i64 c.pos) from rfl)
          have x1 := (hcl 1 (by decide)).trans (show _ = some (Value.slice A c.st.length cp) from rfl)
          have x2 := (hcl 2 (by decide)).trans (show _ = some (Value.bool is) from rfl)
          have y0 := (blk_cell hgc 0).trans (show _ = some (Value.int .i64 c'.pos) from rfl)
          have y1 := (blk_cell hgc 1).trans (show _ = some (Value.slice Cv c'.st.length cc) from rfl)
          have y2 := (blk_cell hgc 2).trans (show _ = some (Value.bool is') from rfl)
          clear hgc hcl
          generalize w15.heap.size = gc at *
          have hSY : ∀ i v xs', Stable (star (DevO d st') (star (TapeO w w.heap.size xs i) (star (BlkO gc #[Value.int .i64 c'.pos, .slice Cv c'.st.length cc, .bool is'] 34) (star (RowO 34 3 v 2 xs') (star (BlkO gx #[Value.int .i64 (c.pos + r), .slice B bs.length cq, .bool true] 34) emp))))) := fun i v xs' => (stable_dev d _).star ((hT i).star ((stable_blk _ _ _).star (hSW _ _)))
          go_wp2_with fail
          go_still_tail 7, (by kernel_rfl)
          change wpList _ _ _ _ _ w16.drew
          have hd16 : Below w16.heap.size w16 w16.drew := (Below.refl _ _).drew
          have HL17 := Lib.hid (HL16.out.below (hSY _ _ _) hd16).1
          have HRv17 := Lib.hid (U8.below hd16 _ _ HRv.out)
          have HRx17 := Lib.hid (U8.below hd16 _ _ HRx.out)
          have HRc17 := Lib.hid (U8.below hd16 _ _ HRc.out)
          clear x0 x1 x2 y0 y1 y2 hd16 HL16 HRv HRx HRc
          generalize w16.drew = w17 at *
          go_wp2_with fail
          refine (same32_calls HRc17.out HRv17.out c.pos c'.pos is is').mono ?_
          rintro e w18 ⟨rfl, hb⟩
          have hf := HL17.out.below (hSY _ _ _) hb
          have HL18 := Lib.hid hf.1
          have HRv18 := Lib.hid (hf.2 _ _ HRv17.out)
          have HRx18 := Lib.hid (hf.2 _ _ HRx17.out)
          have hgc := hf.1.drop.drop.blk
          have y0 := (blk_cell hgc 0).trans (show _ = some (Value.int .i64 c'.pos) from rfl)
          have y1 := (blk_cell hgc 1).trans (show _ = some (Value.slice Cv c'.st.length cc) from rfl)
          have y2 := (blk_cell hgc 2).trans (show _ = some (Value.bool is') from rfl)
          obtain ⟨g2', c2', he2, _, _, _, hcl, _⟩ := row_addr hf.1.drop.drop.drop.row (by decide)
          injection he2 with he2 _ _
          injection he2 with he2
          injection he2 with he2
          subst he2
          have z0 := (hcl 3 (by decide)).trans (show _ = some (Value.int .i64 (c.pos + r)) from rfl)
          have z1 := (hcl 4 (by decide)).trans (show _ = some (Value.slice B bs.length cq) from rfl)
          have z2 := (hcl 5 (by decide)).trans (show _ = some (Value.bool true) from rfl)
          clear hf hb hgc hcl HL17 HRv17 HRx17 HRc17
          dsimp only
          cases hb0 : sameB c.pos c.st is c'.pos c'.st is' with
          | true =>
            go_wp2_with fail
            rw [rounds_succ]
            go_wp2_with fail
            go_quiet (fail)
            have hdn : Below w18.heap.size w18 (w18.drewN nq) := below_drewN' (Below.refl _ _) nq
            have HL20 := Lib.hid (HL18.out.below (hSY _ _ _) hdn).1
            have HRv20 := Lib.hid (U8.below hdn _ _ HRv18.out)
            have hgc := HL20.out.drop.drop.blk
            have u0 := (blk_cell hgc 0).trans (show _ = some (Value.int .i64 c'.pos) from rfl)
            have u1 := (blk_cell hgc 1).trans (show _ = some (Value.slice Cv c'.st.length cc) from rfl)
            have u2 := (blk_cell hgc 2).trans (show _ = some (Value.bool is') from rfl)
            clear y0 y1 y2 z0 z1 z2 hdn hgc HL18 HRv18 HRx18
            generalize w18.drewN nq = w20 at *
            go_wp2_with fail
            rw [rounds_succ]
            go_wp2_with fail
            have hfin := sink_fresh2 HL20.out (hSY _ _ _) #[Value.int .i64 c'.pos, .slice Cv c'.st.length cc, .bool is'] hcpne hq
            refine ⟨⟨q - 1, i1 + 1 + 1, m + 1, w20.heap.size, c', st', Cv, cc, is', by go_num, rfl, (hfin.1.less (OLe.tail (OLe.tail (OLe.tail (OLe.emp _))))).rot, hfin.2 _ _ HRv20.out, HK'.out, Hi9.out.symm, by omega, by omega⟩, by simp [intOf]; omega⟩
          | false =>
            have hb1 : sameB (c.pos + r) bs true c'.pos c'.st is' = true := by
              rcases Hsame.out with h | h
              · rw [hb0] at h; cases h
              · exact h
            go_wp2_with fail
            rw [rounds_succ]
            go_wp2_with fail
            go_still_tail 7, (by kernel_rfl)
            change wpList _ _ _ _ _ w18.drew
            have hd16 : Below w18.heap.size w18 w18.drew := (Below.refl _ _).drew
            have HL19 := Lib.hid (HL18.out.below (hSY _ _ _) hd16).1
            have HRv19 := Lib.hid (U8.below hd16 _ _ HRv18.out)
            have HRx19 := Lib.hid (U8.below hd16 _ _ HRx18.out)
            clear y0 y1 y2 z0 z1 z2 hd16 HL18 HRv18 HRx18
            generalize w18.drew = w19 at *
            go_wp2_with fail
            refine (same32_calls HRx19.out HRv19.out (c.pos + r) c'.pos true is').mono ?_
            rw [hb1]
            rintro e w20 ⟨rfl, hb⟩
            have hf := HL19.out.below (hSY _ _ _) hb
            have HL20 := Lib.hid hf.1
            have HRv20 := Lib.hid (hf.2 _ _ HRv19.out)
            have hgc := hf.1.drop.drop.blk
            have u0 := (blk_cell hgc 0).trans (show _ = some (Value.int .i64 c'.pos) from rfl)
            have u1 := (blk_cell hgc 1).trans (show _ = some (Value.slice Cv c'.st.length cc) from rfl)
            have u2 := (blk_cell hgc 2).trans (show _ = some (Value.bool is') from rfl)
            clear hf hb hgc HL19 HRv19 HRx19
            dsimp only
            go_wp2_with fail
            rw [rounds_succ]
            go_wp2_with fail
            have hfin := sink_fresh2 HL20.out (hSY _ _ _) #[Value.int .i64 c'.pos, .slice Cv c'.st.length cc, .bool is'] hcpne hq
            refine ⟨⟨q - 1, i1 + 1 + 1, m + 1, w20.heap.size, c', st', Cv, cc, is', by go_num, rfl, (hfin.1.less (OLe.tail (OLe.tail (OLe.tail (OLe.emp _))))).rot, hfin.2 _ _ HRv20.out, HK'.out, Hi9.out.symm, by omega, by omega⟩, by simp [intOf]; omega⟩
end Go.Proofs.Ytalnhdeckdakfaa.Dev
