/-
  The library's sorts and Compact on rows of the call's own.
-/
import Derived.Test.YtlbfkcgejpboeaaRsI
import Derived.Test.YtlbfkcgejpboeaaRsShelf
import Derived.Sort.OwnSortedInts
import Derived.Lib.RowBridge
namespace Go.Proofs.Ytlbfkcgejpboeaa.Rs
open Go.RowKit Go.Proofs Go.Sort
set_option linter.unusedVariables false
set_option linter.unusedSimpArgs false
set_option linter.unusedSectionVars false

def srt (xs : List Int) : List Int := xs.mergeSort fun x y => decide (x ≤ y)
theorem srt_len (xs : List Int) : (srt xs).length = xs.length := by simp [srt]
theorem srt_perm (xs : List Int) : (srt xs).Perm xs := List.mergeSort_perm _ _
theorem srt_sorted (xs : List Int) : (srt xs).Pairwise (· ≤ ·) := by
  have := List.pairwise_mergeSort (le := fun (x y : Int) => decide (x ≤ y)) (fun a b c h1 h2 => by simp at *; omega) (fun a b => by simp; omega) xs
  exact this.imp fun h => by simpa using h
theorem srt_mem {xs : List Int} {x : Int} : x ∈ srt xs ↔ x ∈ xs := (srt_perm xs).mem_iff
theorem below_of_only {base : Nat} {w w' : World} {g : Nat} (hb : base ≤ w.heap.size) (hg : base ≤ g) (h : w.grownBy w' (some g)) : RowKit.Below base w w' :=
  (RowKit.Below.refl _ _).grown h hb (fun k hk => by have : g = k := Option.some.inj hk; omega)
theorem own_take {w : World} {base g n cap size : Nat} {e : TypeId} {xs : List Value} (h : w.ownsRow base e size (.slice (some ⟨g, 0, none⟩) n cap) n xs) {m : Nat} (hm : m ≤ n) :
    w.ownsRow base e size (.slice (some ⟨g, 0, none⟩) m cap) m (xs.take (m * size)) := by
  rcases h.2 with ⟨h', _⟩ | ⟨g', cap', cur, h', hb, hg, hnc, hcm, hcs, ht⟩
  · simp at h'
  · simp only [Value.slice.injEq, Option.some.injEq, Addr.mk.injEq, and_true, true_and] at h'
    obtain ⟨rfl, rfl⟩ := h'
    have hl := h.1
    have hmn : m * size ≤ n * size := Nat.mul_le_mul_right _ hm
    refine ⟨by rw [List.length_take]; omega, .inr ⟨g, cap, cur, rfl, hb, hg, by omega, hcm, hcs, ?_⟩⟩
    rw [← ht, List.take_take, Nat.min_eq_left hmn]

theorem sort_calls {w : World} {base : Nat} {v : Value} {xs : List Int} (h : w.ownsRow base 3 1 v xs.length (cI xs)) (hb : base ≤ w.heap.size) (hl : xs.length ≤ 1000000) :
    Calls Try.prog 53 #[v] w fun e w' => e = .returned (.tuple #[]) ∧ w'.ownsRow base 3 1 v (srt xs).length (cI (srt xs)) ∧ RowKit.Below base w w' := by
  rcases h.2 with ⟨rfl, h0⟩ | ⟨g, cap, cur, rfl, hbg, hh, hnc, hcm, hcs, ht⟩
  · have e0 : xs = [] := List.length_eq_zero_iff.1 h0
    subst e0
    refine (Try.slices_Sort_int_none none 0 w).mono fun e w' hw => ?_
    obtain ⟨rfl, rfl⟩ := hw
    exact ⟨rfl, by simpa [srt] using h, RowKit.Below.refl _ _⟩
  · refine (Try.slices_Sort_int g 0 cap xs w (holds_of_blockI hh (by simpa [cI] using ht)) (Array.getElem?_eq_some_iff.1 hh).1 (by omega)).mono fun e w' hw => ?_
    obtain ⟨rfl, n, os, rfl⟩ := hw
    refine ⟨rfl, ?_, below_of_only hb hbg (grownBy_sortedI _)⟩
    rw [srt_len]
    exact ownsRow_sortedI (srt_len xs) hbg hh hnc hcm hcs
theorem ints_calls {w : World} {base : Nat} {v : Value} {xs : List Int} (h : w.ownsRow base 3 1 v xs.length (cI xs)) (hb : base ≤ w.heap.size) (hl : xs.length ≤ 1000000) :
    Calls Try.prog 49 #[v] w fun e w' => e = .returned (.tuple #[]) ∧ w'.ownsRow base 3 1 v (srt xs).length (cI (srt xs)) ∧ RowKit.Below base w w' := by
  rcases h.2 with ⟨rfl, h0⟩ | ⟨g, cap, cur, rfl, hbg, hh, hnc, hcm, hcs, ht⟩
  · have e0 : xs = [] := List.length_eq_zero_iff.1 h0
    subst e0
    refine (Try.sort_Ints_none none 0 w).mono fun e w' hw => ?_
    obtain ⟨rfl, rfl⟩ := hw
    exact ⟨rfl, by simpa [srt] using h, RowKit.Below.refl _ _⟩
  · refine (Try.sort_Ints g 0 cap xs w (holds_of_blockI hh (by simpa [cI] using ht)) (Array.getElem?_eq_some_iff.1 hh).1 (by omega)).mono fun e w' hw => ?_
    obtain ⟨rfl, n, os, rfl⟩ := hw
    refine ⟨rfl, ?_, below_of_only hb hbg (grownBy_sortedI _)⟩
    rw [srt_len]
    exact ownsRow_sortedI (srt_len xs) hbg hh hnc hcm hcs
theorem compact_sub (xs : List Int) : (Lib.compact xs).Sublist xs := by
  unfold Lib.compact Lib.compactUpTo
  have e : (List.range xs.length).map (fun i => xs.toArray[i]!) = xs := by
    apply List.ext_getElem (by simp)
    intro i h1 h2
    simp [List.getElem?_eq_getElem h2]
  have h : (((List.range xs.length).filter (Lib.keeps xs.toArray)).map (fun i => xs.toArray[i]!)).Sublist ((List.range xs.length).map fun i => xs.toArray[i]!) := List.filter_sublist.map _
  rwa [e] at h
theorem compact_calls {w : World} {base : Nat} {v : Value} {xs : List Int} (h : w.ownsRow base 3 1 v xs.length (cI xs)) (hb : base ≤ w.heap.size) (hl : xs.length ≤ 1000000) :
    Calls Try.prog 54 #[v] w fun e w' => ∃ v', e = .returned v' ∧ w'.ownsRow base 3 1 v' (Lib.compact xs).length (cI (Lib.compact xs)) ∧ RowKit.Below base w w' := by
  rcases h.2 with ⟨rfl, h0⟩ | ⟨g, cap, cur, rfl, hbg, hh, hnc, hcm, hcs, ht⟩
  · have e0 : xs = [] := List.length_eq_zero_iff.1 h0
    subst e0
    refine (Try.slices_Compact_int_empty none 0 w).mono fun e w' hw => ?_
    obtain ⟨rfl, rfl⟩ := hw
    exact ⟨_, rfl, h, RowKit.Below.refl _ _⟩
  · refine (Try.slices_Compact_int g 0 cap xs w (holds_of_blockI hh (by simpa [cI] using ht)) (by omega) hnc).mono fun e w' hw => ?_
    obtain ⟨rfl, q, rfl⟩ := hw
    have hle := (compact_sub xs).length_le
    refine ⟨_, rfl, ?_, ?_⟩
    · have h1 := ownsRow_sortedI (n := q) (os := #[]) (ss := xs) (ts := Lib.compact xs ++ List.replicate (xs.length - (Lib.compact xs).length) 0) (by simp; omega) hbg hh hnc hcm hcs
      rw [grow_empty] at h1
      have h2 := own_take h1 hle
      rw [Nat.mul_one, List.map_append, List.take_append_of_le_length (by simp), List.take_of_length_le (by simp)] at h2
      exact h2
    · have := grownBy_sortedI (w := w) (g := g) (n := q) (os := #[]) (Lib.compact xs ++ List.replicate (xs.length - (Lib.compact xs).length) 0).toArray
      rw [grow_empty] at this
      exact below_of_only hb hbg this

theorem compact_mem {xs : List Int} {x : Int} : x ∈ Lib.compact xs ↔ x ∈ xs := by
  refine ⟨fun h => (compact_sub xs).mem h, fun h => ?_⟩
  have key : ∀ i, i < xs.length → xs.toArray[i]! ∈ Lib.compact xs := by
    intro i
    induction i with
    | zero =>
      intro hi
      exact List.mem_map.2 ⟨0, List.mem_filter.2 ⟨List.mem_range.2 hi, Lib.keeps_lt_one _ 0 (by omega)⟩, rfl⟩
    | succ i ih =>
      intro hi
      by_cases he : xs.toArray[i + 1]! = xs.toArray[i]!
      · rw [he]; exact ih (by omega)
      · exact List.mem_map.2 ⟨i + 1, List.mem_filter.2 ⟨List.mem_range.2 hi, Lib.keeps_pos (by simpa using he)⟩, rfl⟩
  obtain ⟨i, hi, rfl⟩ := List.mem_iff_getElem.1 h
  have := key i hi
  rwa [show xs.toArray[i]! = xs[i] by simp [List.getElem?_eq_getElem hi]] at this

/-! Ranges sorted by First -/
def encR (x : R) : List Value := [.int .i64 x.1, .int .i64 x.2]
theorem flatK_cR (rs : List R) : flatK encR 2 rs.toArray = (cR rs).toArray := by
  apply Array.ext
  · simp [cR_len]
  · intro i h1 h2
    have hi : i < rs.length * 2 := by simpa using h1
    have hk := get_flatK encR 2 rs.toArray i (by simpa using hi)
    rw [getElem!_pos _ i h1] at hk
    rw [hk]
    have hg := cR_get (rs := rs) (i := i / 2) (by omega)
    have hd : rs.toArray[i / 2]! = rs.getD (i / 2) (0, 0) := by
      rw [List.getElem!_toArray, List.getD_eq_getElem?_getD, List.getElem!_eq_getElem?_getD]; rfl
    rw [hd]
    have hc : (cR rs).toArray[i]? = some ((cR rs).toArray[i]) := Array.getElem?_eq_getElem h2
    rw [List.getElem?_toArray] at hc
    rcases Nat.mod_two_eq_zero_or_one i with hm | hm
    · rw [show i / 2 * 2 = i by omega] at hg
      rw [hg.1] at hc
      injection hc with hc
      rw [← hc, hm]
      rfl
    · rw [show i / 2 * 2 + 1 = i by omega] at hg
      rw [hg.2] at hc
      injection hc with hc
      rw [← hc, hm]
      rfl
theorem cmp_lt (x y : R) : ltOf (fun x y : R => cmpI x.1 y.1) x y = decide (x.1 < y.1) := by
  unfold ltOf cmpI
  by_cases h1 : x.1 < y.1
  · simp [h1]
  · by_cases h2 : y.1 < x.1 <;> simp [h1, h2]
theorem swoR : SWO (ltOf fun x y : R => cmpI x.1 y.1) where
  irrefl x := by rw [cmp_lt]; simp
  trans x y z h1 h2 := by rw [cmp_lt] at *; simp at *; omega
  ntrans x y z h1 h2 := by rw [cmp_lt] at *; simp at *; omega
theorem take_putCells_id (cur : Array Value) (ts : List Value) (h : ts.length ≤ cur.size) : (putCells id 0 ts.toArray cur).toList.take ts.length = ts := by
  apply List.ext_getElem?
  intro j
  by_cases hj : j < ts.length
  · rw [List.getElem?_take_of_lt hj, Array.getElem?_toList]
    simp [putCells, hj, show j < cur.size by omega]
  · rw [List.getElem?_take_eq_none (by omega), List.getElem?_eq_none (by omega)]
set_option maxHeartbeats 1000000 in
theorem sortR_calls {w : World} {base : Nat} {v : Value} {rs : List R} (h : w.ownsRow base 29 2 v rs.length (cR rs)) (hb : base ≤ w.heap.size) (hl : rs.length ≤ 1000000) :
    Calls Try.prog 33 #[v, .func (.func 34) #[] #[]] w fun e w' => e = .returned (.tuple #[]) ∧ ∃ ds : List R, ds.Perm rs ∧ ds.Pairwise (fun a b => a.1 ≤ b.1) ∧ w'.ownsRow base 29 2 v ds.length (cR ds) ∧ RowKit.Below base w w' := by
  have eg : ∀ args w, (callFunc 34 args).run Try.prog w = .ok (.enter 34 args) w := enters_of Try.func34 (by kernel_rfl) rfl
  rcases h.2 with ⟨rfl, h0⟩ | ⟨g, cap, cur, rfl, hbg, hh, hnc, hcm, hcs, ht⟩
  · have e0 : rs = [] := List.length_eq_zero_iff.1 h0
    subst e0
    have hc := AnyF.slices_SortFunc_none (P := Try.prog) (ρ := Try.sortR_ren) { Try.sortR with } none 0 (.func (.func 34) #[] #[]) w
    change Calls Try.prog 33 _ _ _ at hc
    refine hc.mono fun e w' hw => ?_
    obtain ⟨rfl, rfl⟩ := hw
    exact ⟨rfl, [], List.Perm.refl _, List.Pairwise.nil, h, RowKit.Below.refl _ _⟩
  · have hH : HoldsK encR 2 w g 0 rs.toArray := by
      unfold HoldsK
      rw [flatK_cR]
      intro j hj
      have hj' : j < (cR rs).length := by simpa using hj
      refine ⟨?_, by simp [World.frozen?, hh]⟩
      have h1 := h.cells (g := g) rfl j ((cR rs)[j]) (List.getElem?_eq_getElem hj')
      rw [add_plain] at h1
      rw [Nat.zero_add, h1]
      simp [List.getElem?_eq_getElem hj']
    have hc := AnyQ.slices_SortFunc Try.sortR 2 Try.isAgg29 Try.sizeOf29 encR (fun _ => rfl) (fun x v hv => by simp [encR] at hv; rcases hv with rfl | rfl <;> rfl) (fun x y => cmpI x.1 y.1) swoR 34 #[] g 0 cap rs.toArray w eg (fun _ _ _ _ x y => closure34 x y _) hH (Array.getElem?_eq_some_iff.1 hh).1 (by simp; omega)
    change Calls Try.prog 33 _ _ _ at hc
    refine hc.mono fun e w' hw => ?_
    obtain ⟨rfl, d', n, os, hp, hs, rfl⟩ := hw
    obtain ⟨ds⟩ := d'
    have hlen : ds.length = rs.length := by simpa using hp.1
    have hperm : ds.Perm rs := by
      have := hp.2.2
      simp at this
      rwa [← hlen, List.take_length] at this
    refine ⟨rfl, ds, hperm, ?_, ?_, ?_⟩
    · rw [List.pairwise_iff_getElem]
      intro i j hi hj hij
      have := hs i j (Nat.zero_le _) hij (by simp; omega)
      rw [cmp_lt] at this
      simp at this
      simpa [List.getElem?_eq_getElem hi, List.getElem?_eq_getElem hj] using this
    · unfold sortWorldK putRowK
      rw [flatK_cR]
      refine ⟨by rw [cR_len], .inr ⟨g, cap, putCells id 0 (cR ds).toArray cur, by rw [hlen], hbg, ?_, by omega, hcm, by simp [putCells, hcs], ?_⟩⟩
      · rw [heap_grow_old _ _ (by simpa using (Array.getElem?_eq_some_iff.1 hh).1)]
        simp [putRow, mapBlock, Sort.ahead, Array.getElem?_modify, hh, onCells]
      · rw [← cR_len]
        exact take_putCells_id cur (cR ds) (by rw [cR_len, hcs, hlen]; omega)
    · refine below_of_only hb hbg ⟨rfl, rfl, rfl, by simp [sortWorldK, putRowK], fun k hk hne => ?_⟩
      unfold sortWorldK putRowK
      rw [heap_grow_old _ _ (by simpa using hk)]
      have : g ≠ k := fun e => hne (by rw [e])
      simp [putRow, mapBlock, Sort.ahead, Array.getElem?_modify, this]
end Go.Proofs.Ytlbfkcgejpboeaa.Rs
