/-
  Counting, asking and comparing: Count of both, In, Same, many.
-/
import Derived.Test.YtlbfkcgejpboeaaRsE
import Derived.Laws.StructEq
namespace Go.Proofs.Ytlbfkcgejpboeaa.Rs
open Go.RowKit Go.Proofs Go.Sort
set_option linter.unusedVariables false
set_option linter.unusedSimpArgs false
set_option linter.unusedSectionVars false

theorem run_neq_R (x1 x2 y1 y2 : Int) (w : World) : (binOp .neq 29 (.agg #[.int .i64 x1, .int .i64 x2]) (.agg #[.int .i64 y1, .int .i64 y2])).run Try.prog w = .ok (.bool (!decide ((x1, x2) = (y1, y2)))) w := by
  have u3 := Try.underlying3
  have a3 := Try.isAgg3
  have z3 := Try.sizeOf3
  have hS : Try.prog.underlying 29 = some (.struct (Try.prog.fieldsOf 29)) := by kernel_rfl
  have hp : Try.prog.stoodInHeld 29 = false := by kernel_rfl
  rw [run_neq_struct, show (10000 : Nat) = 9999 + 1 from rfl, run_equalIn_agg w 9999 29 _ _ hS hp]
  simp only [Program.fieldsOf, Try.underlying29]
  go_simp
  by_cases h1 : x1 = y1 <;> by_cases h2 : x2 = y2 <;> simp [h1, h2]
theorem guard29 : Try.prog.eqGuardType Try.prog.depth 29 = false := by kernel_rfl

theorem below_box {w wr : World} (h : Below w.heap.size w wr) (o : Obj) : Below w.heap.size w (wr.alloc o) := below_trans h ((Below.refl _ _).alloc (Nat.le_refl _) _)

theorem mem_take_succ {l : List R} {k : Nat} {n : Int} (hk : k < l.length) (h : memB (l.take k) n = false) (hn : ¬ ((l.getD k (0, 0)).1 ≤ n ∧ n ≤ (l.getD k (0, 0)).2)) : memB (l.take (k + 1)) n = false := by
  rw [take_snoc l k (0, 0) hk]
  cases hc : memB (l.take k ++ [l.getD k (0, 0)]) n with
  | false => rfl
  | true =>
    rw [memB_iff, mem_append, mem_cons] at hc
    rcases hc with hc | hc | hc
    · rw [memB_iff.2 hc] at h; cases h
    · exact absurd hc hn
    · exact absurd hc (mem_nil _)
set_option maxHeartbeats 1000000 in
set_option maxRecDepth 20000 in
theorem in_calls {w : World} {v : Value} {rs : List R} {n : Int} (h : RdR w v rs) :
    Calls Try.prog 22 #[v, .int .i64 n] w fun e w' => e = .returned (.bool (memB rs n)) ∧ Below w.heap.size w w' := by
  have H := Lib.hid h
  obtain ⟨a, c, rfl, h1, h2, _⟩ := h
  go_enter Try.func22, Try.ntmps22
  go_wp2
  go_loopw [9] (fun i wr => ∃ k : Nat, k ≤ rs.length ∧ i = .int .i64 k ∧ memB (rs.take k) n = false ∧ Below w.heap.size w wr) (fun i _ => rs.length - (intOf i).toNat)
  case atStart => exact ⟨0, Nat.zero_le _, rfl, rfl, Below.refl _ _⟩
  case round =>
    obtain ⟨k, hk, rfl, hok, hb⟩ := hrel
    have Hok := Lib.hid hok
    have HB := Lib.hid hb
    clear hok hb
    by_cases hlt : k < rs.length
    · obtain ⟨g, o, rfl, hc⟩ := H.out.at_ hlt
      have x0 := cell_of_below HB.out (hc k hlt).1
      have x1 := cell_of_below HB.out (hc k hlt).2
      have Hn := Lib.hid (mem_take_succ hlt Hok.out)
      have Hy : Hid ((rs.getD k (0, 0)).1 ≤ n → n ≤ (rs.getD k (0, 0)).2 → memB rs n = true) := Lib.hid fun a b => memB_iff.2 ⟨rs.getD k (0, 0), by
        rw [List.getD_eq_getElem?_getD, List.getElem?_eq_getElem hlt]; exact List.getElem_mem hlt, a, b⟩
      clear hc
      generalize rs.getD k (0, 0) = r at *
      obtain ⟨x, y⟩ := r
      by_cases ha : x ≤ n
      · have hd : decide (x ≤ n) = true := decide_eq_true ha
        by_cases hb : n ≤ y
        · have hd2 : decide (n ≤ y) = true := decide_eq_true hb
          have Hy2 := Lib.hid (Hy.out ha hb)
          clear ha hb
          go_wp2
          go_ret
          refine ⟨?_, below_box HB.out _⟩
          rw [Hy2.out]
          rfl
        · have hd2 : decide (n ≤ y) = false := decide_eq_false hb
          have Hn2 := Lib.hid (Hn.out fun h => hb h.2)
          clear ha hb
          go_wp2
          exact ⟨⟨k + 1, by omega, by go_num, Hn2.out, below_box HB.out _⟩, by simp [intOf]; omega⟩
      · have hd : decide (x ≤ n) = false := decide_eq_false ha
        have Hn2 := Lib.hid (Hn.out fun h => ha h.1)
        clear ha
        go_wp2
        exact ⟨⟨k + 1, by omega, by go_num, Hn2.out, below_box HB.out _⟩, by simp [intOf]; omega⟩
    · have hf : memB rs n = false := by have := Hok.out; rwa [List.take_of_length_le (by omega)] at this
      have Hf := Lib.hid hf
      clear hf
      go_wp2
      go_ret
      refine ⟨?_, HB.out⟩
      rw [Hf.out]
      rfl

theorem take_eq_succ {l m : List R} {k : Nat} (hl : k < l.length) (hm : k < m.length) (h : l.take k = m.take k) (e : l.getD k (0, 0) = m.getD k (0, 0)) : l.take (k + 1) = m.take (k + 1) := by
  rw [take_snoc l k (0, 0) hl, take_snoc m k (0, 0) hm, h, e]
set_option maxHeartbeats 1000000 in
set_option maxRecDepth 20000 in
theorem same_calls {w : World} {v u : Value} {rs qs : List R} (h : RdR w v rs) (hq : RdR w u qs) :
    Calls Try.prog 14 #[v, u] w fun e w' => e = .returned (.bool (decide (rs = qs))) ∧ Below w.heap.size w w' := by
  have H := Lib.hid h
  have HQ := Lib.hid hq
  obtain ⟨a, c, rfl, h1, h2, _⟩ := h
  obtain ⟨a2, c2, rfl, h3, h4, _⟩ := hq
  by_cases hlen : rs.length = qs.length
  · have hne : ((rs.length : Int) != (qs.length : Int)) = false := by simp [hlen]
    have hgq := guard29
    have hlen1 : rs.length ≤ qs.length := by omega
    have hlen2 : qs.length ≤ rs.length := by omega
    have Hlen := Lib.hid hlen
    clear hlen
    go_enter Try.func14, Try.ntmps14
    go_wp2
    go_loopw [13] (fun i wr => ∃ k : Nat, k ≤ rs.length ∧ i = .int .i64 k ∧ rs.take k = qs.take k ∧ Below w.heap.size w wr) (fun i _ => rs.length - (intOf i).toNat)
    case atStart => exact ⟨0, Nat.zero_le _, rfl, rfl, Below.refl _ _⟩
    case round =>
      obtain ⟨k, hk, rfl, hok, hb⟩ := hrel
      have Hok := Lib.hid hok
      have HB := Lib.hid hb
      clear hok hb
      by_cases hlt : k < rs.length
      · obtain ⟨g, o, rfl, hc⟩ := H.out.at_ hlt
        obtain ⟨g2, o2, rfl, hc2⟩ := HQ.out.at_ (k := k) (by omega)
        have x0 := cell_of_below HB.out (hc k hlt).1
        have x1 := cell_of_below HB.out (hc k hlt).2
        have z0 := cell_of_below HB.out (hc2 k (by omega)).1
        have z1 := cell_of_below HB.out (hc2 k (by omega)).2
        have Hs := Lib.hid (take_eq_succ hlt (show k < qs.length by omega) Hok.out)
        have Hno : Hid (¬ rs.getD k (0, 0) = qs.getD k (0, 0) → ¬ rs = qs) := Lib.hid fun h e => h (by rw [e])
        have hk0 : (0 : Int) ≤ (k : Int) := by omega
        have hk1 : (k : Int) < (rs.length : Int) := by omega
        have hk2 : (k : Int) < (qs.length : Int) := by omega
        clear hc hc2
        generalize rs.getD k (0, 0) = r at *
        generalize qs.getD k (0, 0) = q at *
        obtain ⟨x, y⟩ := r
        obtain ⟨s, t⟩ := q
        have hrun := run_neq_R x y s t
        by_cases he : (x, y) = (s, t)
        · have Hs2 := Lib.hid (Hs.out he)
          have hd : decide ((x, y) = (s, t)) = true := decide_eq_true he
          rw [hd] at hrun
          clear hd he
          go_wp2
          go_quiet (fail)
          have Hbd := Lib.hid (below_trans HB.out (below_grow wr nq #[]))
          go_wp2
          refine ⟨⟨k + 1, by omega, by go_num, Hs2.out, ?_⟩, by simp [intOf]; omega⟩
          have := Hbd.out
          rwa [grow_empty] at this
        · have Hno2 := Lib.hid (Hno.out he)
          have hd : decide ((x, y) = (s, t)) = false := decide_eq_false he
          rw [hd] at hrun
          clear hd he
          go_wp2
          go_quiet (fail)
          have Hbd := Lib.hid (below_trans HB.out (below_grow wr nq #[]))
          go_wp2
          go_ret
          refine ⟨?_, ?_⟩
          · rw [decide_eq_false Hno2.out]; rfl
          · have := Hbd.out
            rwa [grow_empty] at this
      · have he : rs = qs := by
          have := Hok.out
          rwa [List.take_of_length_le (by omega), List.take_of_length_le (by omega)] at this
        have He := Lib.hid he
        clear he
        go_wp2
        go_ret
        refine ⟨?_, HB.out⟩
        rw [decide_eq_true He.out]; rfl
  · have hne : ((rs.length : Int) != (qs.length : Int)) = true := by simp; omega
    have Hlen := Lib.hid hlen
    clear hlen
    go_enter Try.func14, Try.ntmps14
    go_wp2
    go_ret
    refine ⟨?_, Below.refl _ _⟩
    rw [decide_eq_false fun e => Hlen.out (by rw [e])]; rfl

theorem countR_append (a b : List R) : countR (a ++ b) = countR a + countR b := by
  induction a with
  | nil => simp [countR]
  | cons r a ih => simp only [List.cons_append, countR, ih]; omega
theorem countR_snoc {l : List R} {k : Nat} (h : k < l.length) : countR (l.take (k + 1)) = countR (l.take k) + ((l.getD k (0, 0)).2 - (l.getD k (0, 0)).1 + 1) := by
  rw [take_snoc l k (0, 0) h, countR_append]; simp [countR]
theorem getD_mem {l : List R} {k : Nat} (h : k < l.length) : l.getD k (0, 0) ∈ l := by
  rw [List.getD_eq_getElem?_getD, List.getElem?_eq_getElem h]; exact List.getElem_mem h
theorem countR_bound : ∀ {l : List R}, (∀ r ∈ l, Sound r) → 0 ≤ countR l ∧ countR l ≤ 1073741824 * l.length
  | [], _ => by simp [countR]
  | r :: l, h => by
    have ih := countR_bound (l := l) fun x hx => h x (by simp [hx])
    have := (h r (by simp)).1; have := (h r (by simp)).2.1; have := (h r (by simp)).2.2
    simp only [countR, List.length_cons]; omega
set_option maxHeartbeats 1000000 in
set_option maxRecDepth 20000 in
theorem count_calls {w : World} {v : Value} {rs : List R} (h : RdR w v rs) (hs : IsSet rs) (hl : rs.length ≤ 1000000) :
    Calls Try.prog 16 #[v] w fun e w' => e = .returned (.tuple #[.int .i64 (countR rs), .int .i64 0]) ∧ Below w.heap.size w w' := by
  have H := Lib.hid h
  have Hs := Lib.hid hs
  obtain ⟨a, c, rfl, h1, h2, _⟩ := h
  clear hs
  go_enter Try.func16, Try.ntmps16
  go_wp2_with fail
  refine (check_is H.out (chkE_yes Hs.out)).mono ?_
  rintro e w1 ⟨rfl, hw⟩
  have HW := Lib.hid hw
  clear hw
  go_wp2
  go_loopw [5, 15] (fun t i wr => ∃ k : Nat, k ≤ rs.length ∧ i = .int .i64 k ∧ t = .int .i64 (countR (rs.take k)) ∧ Below w.heap.size w wr) (fun _ i _ => rs.length - (intOf i).toNat)
  case atStart => exact ⟨0, Nat.zero_le _, rfl, rfl, HW.out⟩
  case round =>
    obtain ⟨k, hk, rfl, rfl, hb⟩ := hrel
    have HB := Lib.hid hb
    clear hb
    by_cases hlt : k < rs.length
    · obtain ⟨g, o, rfl, hc⟩ := H.out.at_ hlt
      have x0 := cell_of_below HB.out (hc k hlt).1
      have x1 := cell_of_below HB.out (hc k hlt).2
      have Hn := Lib.hid (countR_snoc hlt)
      obtain ⟨hS1, hS2, hS3⟩ := Hs.out.1 _ (getD_mem hlt)
      obtain ⟨hB1, hB2⟩ := countR_bound (l := rs.take k) fun r hr => Hs.out.1 r (List.mem_of_mem_take hr)
      rw [List.length_take, Nat.min_eq_left hk] at hB2
      have hB3 : countR (rs.take k) ≤ 1073741824000000 := by omega
      clear hc hB2
      generalize countR (rs.take k) = t at *
      generalize rs.getD k (0, 0) = r at *
      obtain ⟨x, y⟩ := r
      simp only at hS1 hS2 hS3
      go_wp2
      refine ⟨⟨k + 1, by omega, by go_num, ?_, below_box HB.out _⟩, by simp [intOf]; omega⟩
      rw [Hn.out]
    · have hf : rs.take k = rs := List.take_of_length_le (by omega)
      have Hf := Lib.hid hf
      clear hf
      go_wp2
      refine bodyPost_ret (v := .tuple #[.int .i64 (countR (rs.take k)), .int .i64 0]) (by simp [results, Try.results16, go_sem]) rfl ⟨?_, HB.out⟩
      rw [Hf.out]
theorem count_not {w : World} {v : Value} {rs : List R} (h : RdR w v rs) (hs : ¬ IsSet rs) :
    Calls Try.prog 16 #[v] w fun e w' => e = .returned (.tuple #[.int .i64 0, .int .i64 120]) ∧ Below w.heap.size w w' := by
  have H := Lib.hid h
  have Hs := Lib.hid hs
  obtain ⟨a, c, rfl, h1, h2, _⟩ := h
  clear hs
  go_enter Try.func16, Try.ntmps16
  go_wp2_with fail
  refine (check_is H.out (chkE_no Hs.out)).mono ?_
  rintro e w1 ⟨rfl, hw⟩
  have HW := Lib.hid hw
  clear hw
  go_wp2
  exact bodyPost_ret (v := .tuple #[.int .i64 0, .int .i64 120]) (by simp [results, Try.results16, go_sem]) rfl ⟨rfl, HW.out⟩
set_option maxHeartbeats 1000000 in
set_option maxRecDepth 20000 in
theorem rcount_calls {w : World} {v : Value} {rs : List R} (h : RdR w v rs) (hs : IsSet rs) (hl : rs.length ≤ 1000000) :
    Calls Try.prog 21 #[v] w fun e w' => e = .returned (.int .i64 (countR rs)) ∧ Below w.heap.size w w' := by
  have H := Lib.hid h
  have Hs := Lib.hid hs
  obtain ⟨a, c, rfl, h1, h2, _⟩ := h
  clear hs
  go_enter Try.func21, Try.ntmps21
  go_wp2
  go_loopw [3, 8] (fun t i wr => ∃ k : Nat, k ≤ rs.length ∧ i = .int .i64 k ∧ t = .int .i64 (countR (rs.take k)) ∧ Below w.heap.size w wr) (fun _ i _ => rs.length - (intOf i).toNat)
  case atStart => exact ⟨0, Nat.zero_le _, rfl, rfl, Below.refl _ _⟩
  case round =>
    obtain ⟨k, hk, rfl, rfl, hb⟩ := hrel
    have HB := Lib.hid hb
    clear hb
    by_cases hlt : k < rs.length
    · obtain ⟨g, o, rfl, hc⟩ := H.out.at_ hlt
      have x0 := cell_of_below HB.out (hc k hlt).1
      have x1 := cell_of_below HB.out (hc k hlt).2
      have Hn := Lib.hid (countR_snoc hlt)
      obtain ⟨hS1, hS2, hS3⟩ := Hs.out.1 _ (getD_mem hlt)
      obtain ⟨hB1, hB2⟩ := countR_bound (l := rs.take k) fun r hr => Hs.out.1 r (List.mem_of_mem_take hr)
      rw [List.length_take, Nat.min_eq_left hk] at hB2
      have hB3 : countR (rs.take k) ≤ 1073741824000000 := by omega
      clear hc hB2
      generalize countR (rs.take k) = t at *
      generalize rs.getD k (0, 0) = r at *
      obtain ⟨x, y⟩ := r
      simp only at hS1 hS2 hS3
      go_wp2
      refine ⟨⟨k + 1, by omega, by go_num, ?_, below_box HB.out _⟩, by simp [intOf]; omega⟩
      rw [Hn.out]
    · have hf : rs.take k = rs := List.take_of_length_le (by omega)
      have Hf := Lib.hid hf
      clear hf
      go_wp2
      go_ret
      refine ⟨?_, HB.out⟩
      rw [← Hf.out, List.take_take, Nat.min_self]
      rfl
end Go.Proofs.Ytlbfkcgejpboeaa.Rs
