/-
  The least members of a set, by the program and by the reference; the reference's Check; how many is too many.
-/
import Derived.Test.YtlbfkcgejpboeaaRsF
namespace Go.Proofs.Ytlbfkcgejpboeaa.Rs
open Go.RowKit Go.Proofs Go.Sort
set_option linter.unusedVariables false
set_option linter.unusedSimpArgs false
set_option linter.unusedSectionVars false

def numsP (x : Int) (j : Nat) : List Int := (List.range j).map fun (i : Nat) => x + (i : Int)
theorem numsP_succ (x : Int) (j : Nat) : numsP x (j + 1) = numsP x j ++ [x + (j : Int)] := by simp [numsP, List.range_succ]
theorem numsP_len (x : Int) (j : Nat) : (numsP x j).length = j := by simp [numsP]
theorem nums_eq (r : R) : nums r = numsP r.1 (r.2 - r.1 + 1).toNat := rfl
theorem expand_append (a b : List R) : expand (a ++ b) = expand a ++ expand b := by simp [expand]
theorem expand_snoc {l : List R} {k : Nat} (h : k < l.length) : expand (l.take (k + 1)) = expand (l.take k) ++ nums (l.getD k (0, 0)) := by
  rw [take_snoc l k (0, 0) h, expand_append]; simp [expand]
theorem take_of_prefix {a b : List Int} {m : Nat} (h : a <+: b) (hm : a.length = m) : a = b.take m := by
  rw [← hm]; exact List.prefix_iff_eq_take.1 h
theorem expand_prefix {l : List R} {k j : Nat} (h : k < l.length) (hj : j ≤ ((l.getD k (0, 0)).2 - (l.getD k (0, 0)).1 + 1).toNat) : expand (l.take k) ++ numsP (l.getD k (0, 0)).1 j <+: expand l := by
  have h1 : expand (l.take k) ++ numsP (l.getD k (0, 0)).1 j <+: expand (l.take (k + 1)) := by
    rw [expand_snoc h]
    refine (List.prefix_append_right_inj _).2 ?_
    rw [nums_eq]
    obtain ⟨d, hd⟩ := Nat.exists_eq_add_of_le hj
    rw [hd]
    refine ⟨(List.range d).map fun (i : Nat) => (l.getD k (0, 0)).1 + (((j + i : Nat)) : Int), ?_⟩
    unfold numsP
    rw [List.range_add, List.map_append, List.map_map]
    rfl
  have h2 : expand (l.take (k + 1)) <+: expand l := by
    refine ⟨expand (l.drop (k + 1)), ?_⟩
    rw [← expand_append, List.take_append_drop]
  exact h1.trans h2
theorem expand_take_prefix {l : List R} (k : Nat) : expand (l.take k) <+: expand l := by
  refine ⟨expand (l.drop k), ?_⟩
  rw [← expand_append, List.take_append_drop]

set_option maxHeartbeats 2000000 in
set_option maxRecDepth 20000 in
theorem members_calls {w : World} {v : Value} {rs : List R} {most : Int} (h : RdR w v rs) (hs : IsSet rs) (hl : rs.length ≤ 1000000) (hm : most ≤ 2000) :
    Calls Try.prog 17 #[v, .int .i64 most] w fun e w' => ∃ u, e = .returned (.tuple #[u, .int .i64 0]) ∧ RdI w' u ((expand rs).take most.toNat) ∧ Below w.heap.size w w' := by
  have H := Lib.hid h
  have Hs := Lib.hid hs
  obtain ⟨a, c, rfl, h1, h2, _⟩ := h
  clear hs
  go_enter Try.func17, Try.ntmps17
  go_wp2_with fail
  refine (check_is H.out (chkE_yes Hs.out)).mono ?_
  rintro e w1 ⟨rfl, hw⟩
  have HW := Lib.hid hw
  clear hw
  go_wp2
  go_loopw [7, 18] (fun t i wr => ∃ k : Nat, k ≤ rs.length ∧ i = .int .i64 k ∧ wr.ownsRow w.heap.size 3 1 t (expand (rs.take k)).length (cI (expand (rs.take k))) ∧ (expand (rs.take k)).length ≤ most.toNat ∧ Below w.heap.size w wr) (fun _ i _ => rs.length - (intOf i).toNat)
  case atStart => exact ⟨0, Nat.zero_le _, rfl, own_nil _ _ _ _, Nat.zero_le _, HW.out⟩
  case round =>
    obtain ⟨k, hk, rfl, ho, hle, hb⟩ := hrel
    have HB := Lib.hid hb
    have HO := Lib.hid ho
    clear hb
    by_cases hlt : k < rs.length
    · obtain ⟨g, o, rfl, hc⟩ := H.out.at_ hlt
      have x0 := cell_of_below HB.out (hc k hlt).1
      have x1 := cell_of_below HB.out (hc k hlt).2
      have Hsn := Lib.hid (expand_snoc hlt)
      have Hpre := Lib.hid (fun j => expand_prefix (j := j) hlt)
      obtain ⟨hS1, hS2, hS3⟩ := Hs.out.1 _ (getD_mem hlt)
      clear hc ho
      rw [nums_eq] at Hsn
      generalize expand (rs.take k) = E at *
      generalize rs.getD k (0, 0) = r at *
      obtain ⟨x, y⟩ := r
      simp only at hS1 hS2 hS3 Hpre Hsn
      obtain ⟨L, hL⟩ : ∃ L : Nat, (L : Int) = y - x + 1 := ⟨(y - x + 1).toNat, by omega⟩
      have hLt : (y - x + 1).toNat = L := by omega
      rw [hLt] at Hpre Hsn
      have hyx : y = x + L - 1 := by omega
      have hLb : (L : Int) ≤ 1073741824 := by omega
      have hx9 : x ≤ 1073741824 := by omega
      clear hL hLt hS2 hS3
      subst hyx
      go_wp2
      have hblk := heap_alloc_new wr (Obj.cells #[Value.int IntKind.i64 x, Value.int IntKind.i64 (x + L - 1)] 29)
      have HB1 := Lib.hid (below_box HB.out (Obj.cells #[Value.int IntKind.i64 x, Value.int IntKind.i64 (x + L - 1)] 29))
      have hba : Below wr.heap.size wr (wr.alloc (Obj.cells #[Value.int IntKind.i64 x, Value.int IntKind.i64 (x + L - 1)] 29)) := (Below.refl _ _).alloc (Nat.le_refl _) _
      have HO1 := Lib.hid (HO.out.alloc (Obj.cells #[Value.int IntKind.i64 x, Value.int IntKind.i64 (x + L - 1)] 29))
      have hsz : w.heap.size ≤ wr.heap.size := HB.out.size
      obtain ⟨bx, hbx⟩ : ∃ bx, bx = wr.heap.size := ⟨_, rfl⟩
      rw [← hbx]
      rw [← hbx] at hblk hsz
      have Hne : Hid (∀ t n, (wr.alloc (Obj.cells #[Value.int IntKind.i64 x, Value.int IntKind.i64 (x + L - 1)] 29)).ownsRow w.heap.size 3 1 t n (cI E) → t.ownBlock ≠ some bx) := Lib.hid fun t n ho he => by
        rcases ho.2 with ⟨rfl, _⟩ | ⟨g, cap, cur, rfl, _, hh, _⟩
        · simp [Value.ownBlock] at he
        · have : g = bx := by simpa [Value.ownBlock] using he
          subst this
          rw [hblk] at hh
          injection hh with hh
          injection hh with _ hh _
          exact absurd hh (by decide)
      clear hbx
      have Hblk := Lib.hid hblk
      clear x0 x1 hba hblk
      generalize wr.alloc (Obj.cells #[Value.int IntKind.i64 x, Value.int IntKind.i64 (x + L - 1)] 29) = W at *
      go_loopw [7, 10] (fun t i wz => ∃ j : Nat, j ≤ L ∧ i = .int .i64 (x + j) ∧ wz.ownsRow w.heap.size 3 1 t (E ++ numsP x j).length (cI (E ++ numsP x j)) ∧ (E ++ numsP x j).length ≤ most.toNat ∧ wz.heap[bx]? = some (Obj.cells #[Value.int IntKind.i64 x, Value.int IntKind.i64 (x + L - 1)] 29 (0, 0)) ∧ Below w.heap.size w wz) (fun _ i _ => (x + L - intOf i).toNat)
      case atStart => exact ⟨0, Nat.zero_le _, by simp, by simpa [numsP] using HO1.out, by simpa [numsP] using hle, Hblk.out, HB1.out⟩
      case round =>
        obtain ⟨j, hj, rfl, ho2, hle2, hbk, hb2⟩ := hrel
        have HB2 := Lib.hid hb2
        have HO2 := Lib.hid ho2
        have Hbk := Lib.hid hbk
        have hlen : (E ++ numsP x j).length = E.length + j := by rw [List.length_append, numsP_len]
        have Hpj := Lib.hid (Hpre.out j)
        have Hsucc : Hid (E ++ numsP x (j + 1) = (E ++ numsP x j) ++ [x + (j : Int)]) := Lib.hid (by rw [numsP_succ, List.append_assoc])
        have y0 : wr.cell? ⟨bx, 0, none⟩ = some (.int .i64 x) := (cell_of_row wr _ 0 _ _ _ hbk).trans rfl
        have y1 : wr.cell? ⟨bx, 1, none⟩ = some (.int .i64 (x + L - 1)) := (cell_of_row wr _ 1 _ _ _ hbk).trans rfl
        clear hb2 ho2 hbk hle
        have hsz2 := HB2.out.size
        by_cases hjl : j < L
        · have hd : decide (x + (j : Int) ≤ x + (L : Int) - 1) = true := decide_eq_true (by omega)
          by_cases hfull : most ≤ ((E.length + j : Nat) : Int)
          · have hres : E ++ numsP x j = (expand rs).take most.toNat := take_of_prefix (Hpj.out (by omega)) (by omega)
            have hd2 : decide (most ≤ (((E ++ numsP x j).length : Nat) : Int)) = true := decide_eq_true (by omega)
            have Hres := Lib.hid hres
            clear hres hfull hle2 hlen
            obtain ⟨A, cc, rfl⟩ := own_form HO2.out
            generalize E ++ numsP x j = F at *
            go_wp2
            refine bodyPost_ret (v := .tuple #[.slice A F.length cc, .int .i64 0]) (by simp [results, Try.results17, go_sem]) rfl ⟨_, rfl, ?_, HB2.out⟩
            rw [← Hres.out]
            exact RdI.own HO2.out
          · have hd2 : decide (most ≤ (((E ++ numsP x j).length : Nat) : Int)) = false := decide_eq_false (by omega)
            have hlen2 : (E ++ numsP x (j + 1)).length ≤ most.toNat := by rw [Hsucc.out, List.length_append, hlen]; simp only [List.length_singleton]; omega
            have Hlen2 := Lib.hid hlen2
            have hF : (E ++ numsP x j).length ≤ 2000 := by omega
            clear hfull hle2 hlen hlen2
            obtain ⟨A, cc, rfl⟩ := own_form HO2.out
            generalize E ++ numsP x j = F at *
            go_wp2_with (at_builtin; refine wpList_append_I w.heap.size rfl _ _ rfl _ _ F [x + (j : Int)] rfl rfl (HO2.out.alloc _) (RdI.block1 (heap_alloc_new wr _)) (by simp; omega) (by simp; omega) ?_; intro v1 w1 ho hg; have HO3 := Lib.hid ho; have HG3 := Lib.hid hg; clear ho hg)
            have hA : Below wr.heap.size wr (wr.alloc (.cells #[Value.int IntKind.i64 (x + (j : Int))] 3)) := (Below.refl _ _).alloc (Nat.le_refl _) _
            have hbb := below_trans HB2.out hA
            refine ⟨⟨j + 1, by omega, by simp; omega, by rw [Hsucc.out]; exact HO3.out, Hlen2.out, ?_, below_of_grown hbb (HO2.out.alloc _) HG3.out⟩, by simp [intOf]; omega⟩
            have e1 : (wr.alloc (.cells #[Value.int IntKind.i64 (x + (j : Int))] 3)).heap[bx]? = some (Obj.cells #[Value.int IntKind.i64 x, Value.int IntKind.i64 (x + L - 1)] 29 (0, 0)) :=
              (hA.block bx (Array.getElem?_eq_some_iff.1 Hbk.out).1).trans Hbk.out
            rw [HG3.out.block bx (Array.getElem?_eq_some_iff.1 e1).1 (fun e => ?_)]
            · exact e1
            · rcases HO2.out.2 with ⟨he, _⟩ | ⟨g, cap, cur, he, _, hh, _⟩
              · rw [he] at e; cases e
              · rw [he] at e
                have : bx = g := Option.some.inj e
                subst this
                rw [Hbk.out] at hh
                injection hh with hh
                injection hh with _ hh _
                exact absurd hh (by decide)
        · obtain rfl : j = L := by omega
          have hd : decide (x + (j : Int) ≤ x + (j : Int) - 1) = false := decide_eq_false (by omega)
          have Hle2 := Lib.hid hle2
          clear hle2 hlen
          rw [← Hsn.out] at HO2 Hle2
          go_wp2
          exact ⟨⟨k + 1, by omega, by go_num, HO2.out, Hle2.out, HB2.out⟩, by simp [intOf]; omega⟩
    · have hf : rs.take k = rs := List.take_of_length_le (by omega)
      rw [hf] at ho hle
      have hres : expand rs = (expand rs).take most.toNat := (List.take_of_length_le hle).symm
      have Hres := Lib.hid hres
      have HO2 := Lib.hid ho
      obtain ⟨A, cc, rfl⟩ := own_form ho
      clear hres ho hf HO
      go_wp2
      refine bodyPost_ret (v := .tuple #[.slice A (expand rs).length cc, .int .i64 0]) (by simp [results, Try.results17, go_sem]) rfl ⟨_, rfl, ?_, HB.out⟩
      rw [← Hres.out]
      exact RdI.own HO2.out
end Go.Proofs.Ytlbfkcgejpboeaa.Rs
