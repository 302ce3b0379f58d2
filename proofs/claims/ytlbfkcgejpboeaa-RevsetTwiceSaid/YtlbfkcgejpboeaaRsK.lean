/-
  Normalize: the set of the numbers of ranges.
-/
import Derived.Test.YtlbfkcgejpboeaaRsJ
namespace Go.Proofs.Ytlbfkcgejpboeaa.Rs
open Go.RowKit Go.Proofs Go.Sort
set_option linter.unusedVariables false
set_option linter.unusedSimpArgs false
set_option linter.unusedSectionVars false

theorem join_calls {w : World} {base : Nat} {v : Value} {l : List R} {r : R} (h : w.ownsRow base 29 2 v l.length (cR l)) (hb : base ≤ w.heap.size) (hl : l.length ≤ 100000000) (hq : ∀ q ∈ l, Sound q) :
    Calls Try.prog 36 #[v, vR r] w fun e w' => ∃ v', e = .returned v' ∧ w'.ownsRow base 29 2 v' (joinL l r).length (cR (joinL l r)) ∧ RowKit.Below base w w' := by
  rcases snoc_cases l with rfl | ⟨m, q, rfl⟩
  · exact join_nil h hb
  · have hs := hq q (by simp)
    exact join_snoc h hb (by simp at hl; omega) (by have := hs.1; have := hs.2.1; omega) (by have := hs.2.2; omega)
theorem joinL_len (l : List R) (r : R) : (joinL l r).length ≤ l.length + 1 := by
  rcases snoc_cases l with rfl | ⟨m, q, rfl⟩
  · simp [joinL]
  · rw [joinL_snoc]; split <;> simp
theorem fold_len : ∀ (rs acc : List R), (rs.foldl joinL acc).length ≤ acc.length + rs.length
  | [], acc => by simp
  | r :: rs, acc => by
    have := fold_len rs (joinL acc r)
    have := joinL_len acc r
    simp only [List.foldl_cons, List.length_cons]; omega
theorem fold_take {ds : List R} {k : Nat} (h : k < ds.length) : (ds.take (k + 1)).foldl joinL [] = joinL ((ds.take k).foldl joinL []) (ds.getD k (0, 0)) := by
  rw [take_snoc ds k (0, 0) h, List.foldl_append]; rfl
theorem fold_take_spec {ds : List R} (hs : ∀ r ∈ ds, Sound r) (hp : ds.Pairwise fun a b => a.1 ≤ b.1) (k : Nat) : IsSet ((ds.take k).foldl joinL []) :=
  (fold_spec isSet_nil (fun r hr => hs r (List.mem_of_mem_take hr)) (hp.sublist (List.take_sublist _ _)) (fun _ h => (List.not_mem_nil h).elim)).1

/-- the set of the numbers of these ranges -/
def Norm (rs s : List R) : Prop := IsSet s ∧ (∀ n, mem s n ↔ mem rs n) ∧ s.length ≤ rs.length

set_option maxHeartbeats 2000000 in
set_option maxRecDepth 20000 in
theorem normalize_yes {w : World} {v : Value} {rs : List R} (h : RdR w v rs) (hs : ∀ r ∈ rs, Sound r) (hl : rs.length ≤ 100000) :
    Calls Try.prog 13 #[v] w fun e w' => ∃ u s, e = .returned (.tuple #[u, .int .i64 0]) ∧ Norm rs s ∧ RdR w' u s ∧ RowKit.Below w.heap.size w w' := by
  have H := Lib.hid h
  have Hs := Lib.hid hs
  obtain ⟨a, c, rfl, h1, h2, _⟩ := h
  clear hs
  go_enter Try.func13, Try.ntmps13
  go_wp2
  go_loopw [11] (fun i wr => ∃ k : Nat, k ≤ rs.length ∧ i = .int .i64 k ∧ RowKit.Below w.heap.size w wr) (fun i _ => rs.length - (intOf i).toNat)
  case atStart => exact ⟨0, Nat.zero_le _, rfl, RowKit.Below.refl _ _⟩
  case round =>
    obtain ⟨k, hk, rfl, hb⟩ := hrel
    have HB := Lib.hid hb
    clear hb
    by_cases hlt : k < rs.length
    · obtain ⟨g, o, rfl, hc⟩ := H.out.at_ hlt
      have x0 := cell_of_below HB.out (hc k hlt).1
      have x1 := cell_of_below HB.out (hc k hlt).2
      have hS := sound_iff.2 (Hs.out _ (getD_mem hlt))
      have HS := Lib.hid hS
      clear hc hS
      generalize rs.getD k (0, 0) = r at *
      obtain ⟨x, y⟩ := r
      go_wp2_with (go_at_call 31; refine (sound_is HS.out _).mono ?_; rintro e w' ⟨rfl, rfl⟩)
      exact ⟨⟨k + 1, by omega, by go_num, below_box (below_box HB.out _) _⟩, by simp [intOf]; omega⟩
    · have hcl := clone_calls (H.out.below HB.out) (show rs.length ≤ 1000000 by omega)
      have HC := Lib.hid hcl
      clear hcl
      go_wp2_with fail
      refine HC.out.mono ?_
      rintro e w1 ⟨v1, rfl, ho, hb1⟩
      have HB1 := Lib.hid (below_trans HB.out hb1)
      have hso := sortR_calls (base := wr.heap.size) ho hb1.size (by omega)
      have HSo := Lib.hid hso
      obtain ⟨A1, c1, rfl⟩ := own_form ho
      have hsz1 : w.heap.size ≤ wr.heap.size := HB.out.size
      clear ho hb1 hso HC
      go_wp2_with fail
      refine HSo.out.mono ?_
      rintro e w2 ⟨rfl, ds, hp, hpw, ho2, hb2⟩
      have hlen : ds.length = rs.length := hp.length_eq
      have HB2 : Hid (RowKit.Below w.heap.size w w2) := Lib.hid (HB1.out.trans (hb2.mono hsz1))
      have hsnd : ∀ r ∈ ds, Sound r := fun r hr => Hs.out r (hp.mem_iff.1 hr)
      have hn := norm_spec Hs.out hp hpw
      have HN : Hid (Norm rs (ds.foldl joinL [])) := Lib.hid ⟨hn.1, hn.2, by have := fold_len ds []; simp at this; omega⟩
      have HF := Lib.hid (fold_take_spec hsnd hpw)
      have HR2 := Lib.hid (RdR.own ho2)
      rw [← hlen] at ho2 HR2
      have Hlen := Lib.hid hlen
      have hl2 : ds.length ≤ 100000 := by omega
      clear hp hpw ho2 hb2 hsnd hn HSo HB1 hlen
      rw [← Hlen.out]
      have hw2 : w.heap.size ≤ w2.heap.size := HB2.out.size
      go_wp2
      go_loopw [6, 25] (fun t i wz => ∃ k : Nat, k ≤ ds.length ∧ i = .int .i64 k ∧ wz.ownsRow w2.heap.size 29 2 t ((ds.take k).foldl joinL []).length (cR ((ds.take k).foldl joinL [])) ∧ RowKit.Below w2.heap.size w2 wz) (fun _ i _ => ds.length - (intOf i).toNat)
      case atStart => exact ⟨0, Nat.zero_le _, rfl, own_nil _ _ _ _, RowKit.Below.refl _ _⟩
      case round =>
        obtain ⟨j, hj, rfl, ho3, hb3⟩ := hrel
        have HO3 := Lib.hid ho3
        have HB3 := Lib.hid hb3
        obtain ⟨A3, c3, rfl⟩ := own_form ho3
        have hle3 := fold_len (ds.take j) []
        clear ho3 hb3
        by_cases hlt3 : j < ds.length
        · obtain ⟨g3, o3, rfl, hc3⟩ := HR2.out.at_ hlt3
          have x0 := cell_of_below HB3.out (hc3 j hlt3).1
          have x1 := cell_of_below HB3.out (hc3 j hlt3).2
          have Hst := Lib.hid (fold_take hlt3)
          have hFj := HF.out j
          have hle4 : ((ds.take j).foldl joinL []).length ≤ 100000000 := by
            rw [List.length_take] at hle3; simp at hle3; omega
          have hjc := fun W (hW : RowKit.Below w2.heap.size wr W) (hO : W.ownsRow w2.heap.size 29 2 (.slice A3 ((ds.take j).foldl joinL []).length c3) ((ds.take j).foldl joinL []).length (cR ((ds.take j).foldl joinL []))) => join_calls (r := ds.getD j (0, 0)) hO (Nat.le_trans HB3.out.size hW.size) hle4 hFj.1
          have HJ := Lib.hid hjc
          clear hc3 hFj hle3 hle4 hjc
          generalize (ds.take j).foldl joinL [] = F at *
          generalize ds.getD j (0, 0) = r at *
          obtain ⟨x, y⟩ := r
          go_wp2_with fail
          have hA : RowKit.Below w2.heap.size wr (wr.alloc (Obj.cells #[Value.int IntKind.i64 x, Value.int IntKind.i64 y] 29)) := (RowKit.Below.refl _ _).alloc HB3.out.size _
          refine (HJ.out _ hA (HO3.out.alloc _)).mono ?_
          rintro e w4 ⟨v4, rfl, ho4, hb4⟩
          have HO4 := Lib.hid ho4
          have HB4 := Lib.hid ((HB3.out.trans hA).trans hb4)
          clear ho4 hb4 hA
          go_wp2
          exact ⟨⟨j + 1, by omega, by go_num, by rw [Hst.out]; exact HO4.out, HB4.out⟩, by simp [intOf]; omega⟩
        · have hf : ds.take j = ds := List.take_of_length_le (by omega)
          rw [hf] at HO3
          rw [hf]
          clear hf hle3
          go_wp2
          refine bodyPost_ret (v := .tuple #[.slice A3 (ds.foldl joinL []).length c3, .int .i64 0]) (by simp [results, Try.results13, go_sem]) rfl ⟨_, _, rfl, HN.out, RdR.own HO3.out, HB2.out.trans (HB3.out.mono hw2)⟩
set_option maxHeartbeats 1000000 in
set_option maxRecDepth 20000 in
theorem normalize_no {w : World} {v : Value} {rs : List R} (h : RdR w v rs) (hs : ¬ ∀ r ∈ rs, Sound r) :
    Calls Try.prog 13 #[v] w fun e w' => e = .returned (.tuple #[.slice none 0 0, .int .i64 120]) ∧ RowKit.Below w.heap.size w w' := by
  have H := Lib.hid h
  have Hs := Lib.hid hs
  obtain ⟨a, c, rfl, h1, h2, _⟩ := h
  clear hs
  go_enter Try.func13, Try.ntmps13
  go_wp2
  go_loopw [11] (fun i wr => ∃ k : Nat, k ≤ rs.length ∧ i = .int .i64 k ∧ (∀ j, j < k → Sound (rs.getD j (0, 0))) ∧ RowKit.Below w.heap.size w wr) (fun i _ => rs.length - (intOf i).toNat)
  case atStart => exact ⟨0, Nat.zero_le _, rfl, fun _ h => by omega, RowKit.Below.refl _ _⟩
  case round =>
    obtain ⟨k, hk, rfl, hok, hb⟩ := hrel
    have HB := Lib.hid hb
    have Hok := Lib.hid hok
    clear hb hok
    by_cases hlt : k < rs.length
    · obtain ⟨g, o, rfl, hc⟩ := H.out.at_ hlt
      have x0 := cell_of_below HB.out (hc k hlt).1
      have x1 := cell_of_below HB.out (hc k hlt).2
      have Hn : Hid (Sound (rs.getD k (0, 0)) → ∀ j, j < k + 1 → Sound (rs.getD j (0, 0))) := Lib.hid fun h j hj => by
        rcases Nat.lt_or_ge j k with e | e
        · exact Hok.out j e
        · obtain rfl : k = j := by omega
          exact h
      clear hc
      generalize rs.getD k (0, 0) = r at *
      obtain ⟨x, y⟩ := r
      cases hS : sound (x, y) with
      | true =>
        have HS := Lib.hid hS
        have Hn2 := Lib.hid (Hn.out (sound_iff.1 hS))
        clear hS
        go_wp2_with (go_at_call 31; refine (sound_is HS.out _).mono ?_; rintro e w' ⟨rfl, rfl⟩)
        exact ⟨⟨k + 1, by omega, by go_num, Hn2.out, below_box (below_box HB.out _) _⟩, by simp [intOf]; omega⟩
      | false =>
        have HS := Lib.hid hS
        clear hS
        go_wp2_with (go_at_call 31; refine (sound_is HS.out _).mono ?_; rintro e w' ⟨rfl, rfl⟩)
        exact bodyPost_ret (v := .tuple #[.slice none 0 0, .int .i64 120]) (by simp [results, Try.results13, go_sem]) rfl ⟨rfl, below_box (below_box HB.out _) _⟩
    · exfalso
      refine Hs.out fun r hr => ?_
      obtain ⟨i, hi, rfl⟩ := List.mem_iff_getElem.1 hr
      have := Hok.out i (by omega)
      rwa [List.getD_eq_getElem?_getD, List.getElem?_eq_getElem hi] at this
end Go.Proofs.Ytlbfkcgejpboeaa.Rs
