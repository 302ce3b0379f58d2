/-
  walk: the set that is made of two sets; Union, Meet, Minus.
-/
import Derived.Test.YtlbfkcgejpboeaaRsK
namespace Go.Proofs.Ytlbfkcgejpboeaa.Rs
open Go.RowKit Go.Proofs Go.Sort
set_option linter.unusedVariables false
set_option linter.unusedSimpArgs false
set_option linter.unusedSectionVars false

theorem compact_strict {xs : List Int} (h : xs.Pairwise (· ≤ ·)) : (Lib.compact xs).Pairwise (· < ·) := by
  unfold Lib.compact Lib.compactUpTo
  rw [List.pairwise_map]
  have h1 : ((List.range xs.length).filter (Lib.keeps xs.toArray)).Pairwise (· < ·) := List.pairwise_lt_range.filter _
  refine h1.imp_of_mem fun {i j} hi hj hij => ?_
  obtain ⟨hi1, _⟩ := List.mem_filter.1 hi
  obtain ⟨hj1, hj2⟩ := List.mem_filter.1 hj
  have hi3 := List.mem_range.1 hi1
  have hj3 := List.mem_range.1 hj1
  have g : ∀ k, (hk : k < xs.length) → xs.toArray[k]! = xs[k] := fun k hk => by simp [List.getElem?_eq_getElem hk]
  have hp := List.pairwise_iff_getElem.1 h
  have hne : xs.toArray[j]! ≠ xs.toArray[j - 1]! := by
    intro e
    rw [Lib.keeps_neg (by omega) e] at hj2
    cases hj2
  rw [g j hj3, g (j - 1) (by omega)] at hne
  rw [g i hi3, g j hj3]
  have h2 := hp (j - 1) j (by omega) hj3 (by omega)
  rcases Nat.lt_or_ge i (j - 1) with e | e
  · have := hp i (j - 1) hi3 (by omega) e; omega
  · obtain rfl : i = j - 1 := by omega
    omega
theorem ends_append (a b : List R) : ends (a ++ b) = ends a ++ ends b := by simp [ends]
theorem ends_len : ∀ l : List R, (ends l).length = 2 * l.length
  | [] => rfl
  | r :: l => by
    have := ends_len l
    show (r.1 :: (r.2 + 1) :: ends l).length = _
    simp only [List.length_cons, this]; omega
theorem ends_snoc {l : List R} {k : Nat} (h : k < l.length) : ends (l.take (k + 1)) = ends (l.take k) ++ [(l.getD k (0, 0)).1, (l.getD k (0, 0)).2 + 1] := by
  rw [take_snoc l k (0, 0) h, ends_append]; rfl
theorem pieces_len (c : Int → Bool) (E : List Int) : ∀ k, (pieces c E k).length ≤ k
  | 0 => Nat.le_refl _
  | k + 1 => by
    have ih := pieces_len c E k
    show (piece c (pieces c E k) _ _).length ≤ _
    unfold piece
    split
    · have := joinL_len (pieces c E k) (E.getD k 0, E.getD (k + 1) 0 - 1); omega
    · omega
/-- the set of a kind that is made of two -/
def Made (k : Nat) (a b s : List R) : Prop := IsSet s ∧ (∀ n, mem s n ↔ op3 k (memB a n) (memB b n) = true) ∧ s.length ≤ 2 * (a.length + b.length)
theorem op3_ff (k : Nat) : op3 k false false = false := by unfold op3; split <;> (try split) <;> rfl
theorem getD_int {l : List Int} {k : Nat} (h : k < l.length) : l.getD k 0 ∈ l := by
  rw [List.getD_eq_getElem?_getD, List.getElem?_eq_getElem h]; exact List.getElem_mem h
/-- what the loop over the ends makes -/
theorem made_of {k : Nat} {a b : List R} {E : List Int} (ha : ∀ r ∈ a, Sound r) (hb : ∀ r ∈ b, Sound r) (hs : E.Pairwise (· ≤ ·)) (hE : ∀ e, e ∈ E ↔ e ∈ ends (a ++ b)) (hl : E.length ≤ 2 * (a.length + b.length)) :
    Made k a b (pieces (fun n => op3 k (memB a n) (memB b n)) E (E.length - 1)) := by
  obtain ⟨h1, h2⟩ := made_spec (op3_ff k) ha hb hs hE
  exact ⟨h1, h2, by have := pieces_len (fun n => op3 k (memB a n) (memB b n)) E (E.length - 1); omega⟩
theorem ends_bound {a b : List R} {E : List Int} (ha : ∀ r ∈ a, Sound r) (hb : ∀ r ∈ b, Sound r) (hE : ∀ e, e ∈ E ↔ e ∈ ends (a ++ b)) : ∀ e ∈ E, 1 ≤ e ∧ e ≤ 1073741825 := by
  intro e he
  obtain ⟨r, hr, h⟩ := ends_mem ((hE e).1 he)
  have hr' : Sound r := (List.mem_append.1 hr).elim (ha r) (hb r)
  have := hr'.1; have := hr'.2.1; have := hr'.2.2
  omega
theorem pieces_set {k : Nat} {a b : List R} {E : List Int} (ha : ∀ r ∈ a, Sound r) (hb : ∀ r ∈ b, Sound r) (hs : E.Pairwise (· ≤ ·)) (hE : ∀ e, e ∈ E ↔ e ∈ ends (a ++ b)) : ∀ j, j < E.length →
    IsSet (pieces (fun n => op3 k (memB a n) (memB b n)) E j) ∧ (∀ q ∈ pieces (fun n => op3 k (memB a n) (memB b n)) E j, q.2 < E.getD j 0) := by
  intro j hj
  have hA : ∀ r ∈ a, r.1 ∈ E ∧ r.2 + 1 ∈ E := fun r hr => by
    have := mem_ends (l := a ++ b) (List.mem_append_left _ hr); exact ⟨(hE _).2 this.1, (hE _).2 this.2⟩
  have hB : ∀ r ∈ b, r.1 ∈ E ∧ r.2 + 1 ∈ E := fun r hr => by
    have := mem_ends (l := a ++ b) (List.mem_append_right _ hr); exact ⟨(hE _).2 this.1, (hE _).2 this.2⟩
  have h := pieces_spec (c := fun n => op3 k (memB a n) (memB b n)) hs (ends_bound ha hb hE) (fun i n hk h1 h2 => by
      have e : ∀ {l : List R}, (∀ r ∈ l, r.1 ∈ E ∧ r.2 + 1 ∈ E) → memB l n = memB l (E.getD i 0) := fun hl => by
        rw [Bool.eq_iff_iff, memB_iff, memB_iff]; exact const_between hs hl hk h1 h2
      show op3 k _ _ = op3 k _ _
      rw [e hA, e hB]) j hj
  exact ⟨h.1, h.2.2⟩

set_option maxHeartbeats 4000000 in
set_option maxRecDepth 100000 in
theorem walk_yes {w : World} {v u : Value} {a b : List R} {g k : Nat} (eg : ∀ args w, (callFunc g args).run Try.prog w = .ok (.enter g args) w)
    (hg : ∀ (x y : Bool) (W : World), Calls Try.prog g #[.bool x, .bool y] W fun e w' => e = .returned (.bool (op3 k x y)) ∧ W = w')
    (h : RdR w v a) (h2 : RdR w u b) (hs : IsSet a) (hs2 : IsSet b) (hl : a.length ≤ 10000) (hl2 : b.length ≤ 10000) :
    Calls Try.prog 40 #[v, u, .func (.func g) #[] #[]] w fun e w' => ∃ z s, e = .returned (.tuple #[z, .int .i64 0]) ∧ Made k a b s ∧ RdR w' z s ∧ RowKit.Below w.heap.size w w' := by
  have H := Lib.hid h
  have H2 := Lib.hid h2
  have Hs := Lib.hid hs
  have Hs2 := Lib.hid hs2
  have Hg := Lib.hid hg
  obtain ⟨aa, ac, rfl, a1, a2, _⟩ := h
  obtain ⟨ba, bc, rfl, b1, b2, _⟩ := h2
  clear hs hs2 hg
  go_enter Try.func40, Try.ntmps40
  go_wp2_with fail
  refine (check_is H.out (chkE_yes Hs.out)).mono ?_
  rintro e w1 ⟨rfl, hw1⟩
  have HB1 := Lib.hid hw1
  clear hw1
  go_wp2_with fail
  refine (check_is (H2.out.below HB1.out) (chkE_yes Hs2.out)).mono ?_
  rintro e w2 ⟨rfl, hw2⟩
  have HB2 := Lib.hid (below_trans HB1.out hw2)
  clear hw2 HB1
  go_wp2_with fail
  refine (or_calls (e := 0) (f := 0) (by go_simp) (by go_simp)).mono ?_
  rintro e w3 ⟨rfl, rfl⟩
  have HB3 := Lib.hid (below_box HB2.out (Obj.cells #[Value.int IntKind.i64 0, Value.int IntKind.i64 0] 25))
  generalize w2.alloc (Obj.cells #[Value.int IntKind.i64 0, Value.int IntKind.i64 0] 25) = w3 at *
  clear HB2
  go_wp2_with fail
  have hA3 : RowKit.Below w3.heap.size w3 (w3.alloc (Obj.cells #[Value.slice aa a.length ac, Value.slice ba b.length bc] 22)) := (RowKit.Below.refl _ _).alloc (Nat.le_refl _) _
  have HB4 := Lib.hid (below_trans HB3.out hA3)
  refine (concat2_calls (H.out.below HB4.out) (H2.out.below HB4.out) (by go_simp) (by go_simp) (by omega)).mono ?_
  rintro e w4 ⟨v4, rfl, ho4, hb4⟩
  obtain ⟨L, hL⟩ : ∃ L, L = a ++ b := ⟨_, rfl⟩
  rw [← hL] at ho4
  have HB5 := Lib.hid (below_trans HB4.out hb4)
  have HR4 := Lib.hid (RdR.own ho4)
  have hlab : L.length = a.length + b.length := by rw [hL]; simp
  have Hlab := Lib.hid hlab
  have hsnd : ∀ r ∈ L, Sound r := fun r hr => (List.mem_append.1 (hL ▸ hr)).elim (Hs.out.1 r) (Hs2.out.1 r)
  have Hsnd := Lib.hid hsnd
  obtain ⟨A4, c4, rfl⟩ := own_form ho4
  have hll : L.length ≤ 20000 := by omega
  have HL := Lib.hid hL
  clear ho4 hb4 hA3 hlab hsnd HB3 HB4 hL
  have hw4 : w.heap.size ≤ w4.heap.size := HB5.out.size
  go_wp2
  go_loopw [9, 29] (fun t i wr => ∃ j : Nat, j ≤ L.length ∧ i = .int .i64 j ∧ wr.ownsRow w4.heap.size 3 1 t (ends (L.take j)).length (cI (ends (L.take j))) ∧ RowKit.Below w4.heap.size w4 wr) (fun _ i _ => L.length - (intOf i).toNat)
  case atStart => exact ⟨0, Nat.zero_le _, rfl, own_nil _ _ _ _, RowKit.Below.refl _ _⟩
  case round =>
    obtain ⟨j, hj, rfl, ho, hb⟩ := hrel
    have HO := Lib.hid ho
    have HB := Lib.hid hb
    obtain ⟨A, c, rfl⟩ := own_form ho
    have hel : (ends (L.take j)).length ≤ 40000 := by rw [ends_len, List.length_take]; omega
    have hsz := hb.size
    clear ho hb
    by_cases hlt : j < L.length
    · obtain ⟨gg, o, rfl, hc⟩ := HR4.out.at_ hlt
      have x0 := cell_of_below HB.out (hc j hlt).1
      have x1 := cell_of_below HB.out (hc j hlt).2
      have Hst := Lib.hid (ends_snoc hlt)
      obtain ⟨hS1, hS2, hS3⟩ := Hsnd.out _ (getD_mem hlt)
      clear hc
      generalize ends (L.take j) = F at *
      generalize L.getD j (0, 0) = r at *
      obtain ⟨x, y⟩ := r
      simp only at hS1 hS2 hS3
      go_wp2_with (at_builtin; refine wpList_append_I w4.heap.size rfl _ _ rfl _ _ F [x, y + 1] rfl rfl ((HO.out.alloc _).alloc _) (by go_simp; exact RdI.block2 (by have := heap_alloc_new (wr.alloc (Obj.cells #[Value.int IntKind.i64 x, Value.int IntKind.i64 y] 29)) (Obj.cells #[Value.int IntKind.i64 x, Value.int IntKind.i64 (y + 1)] 3); simpa using this)) (by simp; omega) (by simp; omega) ?_; intro v1 w1 ho hg; have HO1 := Lib.hid ho; have HG1 := Lib.hid hg; clear ho hg)
      have hbb := ((HB.out.alloc hsz (Obj.cells #[Value.int IntKind.i64 x, Value.int IntKind.i64 y] 29)).alloc (by simp; omega) (Obj.cells #[Value.int IntKind.i64 x, Value.int IntKind.i64 (y + 1)] 3))
      exact ⟨⟨j + 1, by omega, by go_num, by rw [Hst.out]; exact HO1.out, below_of_grown hbb ((HO.out.alloc _).alloc _) HG1.out⟩, by simp [intOf]; omega⟩
    · have hf : L.take j = L := List.take_of_length_le (by omega)
      rw [hf] at HO hel
      rw [hf]
      clear hf
      have HSo := Lib.hid (sort_calls HO.out HB.out.size (by omega))
      go_wp2_with fail
      refine HSo.out.mono ?_
      rintro e w5 ⟨rfl, ho5, hb5⟩
      have HB6 := Lib.hid (HB.out.trans hb5)
      have HCo := Lib.hid (compact_calls ho5 HB6.out.size (by rw [srt_len]; omega))
      clear hb5 ho5
      go_wp2_with fail
      refine HCo.out.mono ?_
      rintro e w6 ⟨v6, rfl, ho6, hb6⟩
      have HB7 := Lib.hid (HB5.out.trans ((HB6.out.trans hb6).mono hw4))
      have hEs : (Lib.compact (srt (ends L))).Pairwise (· < ·) := compact_strict (srt_sorted _)
      have hEm : ∀ e, e ∈ Lib.compact (srt (ends L)) ↔ e ∈ ends (a ++ b) := fun e => by rw [compact_mem, srt_mem, HL.out]
      have hEl : (Lib.compact (srt (ends L))).length ≤ 2 * (a.length + b.length) := by
        have h1 := (compact_sub (srt (ends L))).length_le
        have h2 := ends_len L
        have h3 := Hlab.out
        rw [srt_len] at h1
        omega
      have HR6 := Lib.hid (RdI.own ho6)
      obtain ⟨A6, c6, rfl⟩ := own_form ho6
      clear ho6 hb6 HSo HCo HB6 HB5 HB HO
      generalize Lib.compact (srt (ends L)) = E at *
      have hEs' : E.Pairwise (· ≤ ·) := hEs.imp fun h => Int.le_of_lt h
      have HMade := Lib.hid (made_of (k := k) Hs.out.1 Hs2.out.1 hEs' hEm hEl)
      have HSet := Lib.hid (pieces_set (k := k) Hs.out.1 Hs2.out.1 hEs' hEm)
      have HEb := Lib.hid (ends_bound Hs.out.1 Hs2.out.1 hEm)
      have HEs := Lib.hid hEs
      have Hpl := Lib.hid (pieces_len (fun n => op3 k (memB a n) (memB b n)) E)
      have hl6 : E.length ≤ 40000 := by omega
      clear hEs hEm hEl hEs' hel
      have hw6 : w.heap.size ≤ w6.heap.size := HB7.out.size
      go_wp2
      go_loopw [12, 13] (fun t i wz => ∃ q : Nat, (q = 0 ∨ q < E.length) ∧ i = .int .i64 ((q : Int) + 1) ∧ wz.ownsRow w6.heap.size 29 2 t (pieces (fun n => op3 k (memB a n) (memB b n)) E q).length (cR (pieces (fun n => op3 k (memB a n) (memB b n)) E q)) ∧ RowKit.Below w6.heap.size w6 wz) (fun _ i _ => (E.length - (intOf i).toNat))
      case atStart => exact ⟨0, .inl rfl, rfl, own_nil _ _ _ _, RowKit.Below.refl _ _⟩
      case round =>
        obtain ⟨q, hq, rfl, hoz, hbz⟩ := hrel
        have HOz := Lib.hid hoz
        have HBz := Lib.hid hbz
        obtain ⟨Az, cz, rfl⟩ := own_form hoz
        clear hoz hbz
        by_cases hlt2 : q + 1 < E.length
        · have hd : decide ((q : Int) + 1 < (E.length : Int)) = true := decide_eq_true (by omega)
          obtain ⟨g6, o6, rfl, hc6⟩ := HR6.out.at_ (k := q) (by omega)
          have y0 := cell_of_below HBz.out (hc6 q (by omega))
          have y1 := cell_of_below HBz.out (hc6 (q + 1) (by omega))
          have hS := HSet.out q (by omega)
          have hlt3 : E.getD q 0 < E.getD (q + 1) 0 := by
            have gg : ∀ j, (hj : j < E.length) → E.getD j 0 = E[j] := fun j hj => by rw [List.getD_eq_getElem?_getD, List.getElem?_eq_getElem hj]; rfl
            rw [gg q (by omega), gg (q + 1) hlt2]
            exact List.pairwise_iff_getElem.1 HEs.out q (q + 1) (by omega) hlt2 (by omega)
          have hb1 := HEb.out _ (getD_int (k := q) (l := E) (by omega))
          have hb2 := HEb.out _ (getD_int (k := q + 1) (l := E) hlt2)
          have Hst : Hid (pieces (fun n => op3 k (memB a n) (memB b n)) E (q + 1) = if E.getD q 0 < E.getD (q + 1) 0 ∧ op3 k (memB a (E.getD q 0)) (memB b (E.getD q 0)) = true then joinL (pieces (fun n => op3 k (memB a n) (memB b n)) E q) (E.getD q 0, E.getD (q + 1) 0 - 1) else pieces (fun n => op3 k (memB a n) (memB b n)) E q) := Lib.hid rfl
          have hpl := Hpl.out q
          have HSet1 := Lib.hid hS.1.1
          clear hc6 hS
          generalize pieces (fun n => op3 k (memB a n) (memB b n)) E q = F at *
          generalize E.getD q 0 = e0 at *
          generalize E.getD (q + 1) 0 = e1 at *
          have HJ := Lib.hid (fun W (hW : RowKit.Below w6.heap.size wr W) (hO : W.ownsRow w6.heap.size 29 2 (.slice Az F.length cz) F.length (cR F)) => join_calls (r := (e0, e1 - 1)) hO (Nat.le_trans HBz.out.size hW.size) (by omega) HSet1.out)
          clear HSet1
          have HBa := Lib.hid (HB7.out.trans (HBz.out.mono hw6))
          have hz6 : w6.heap.size ≤ wr.heap.size := HBz.out.size
          obtain ⟨pa, hpa⟩ : ∃ pa, memB a e0 = pa := ⟨_, rfl⟩
          obtain ⟨pb, hpb⟩ : ∃ pb, memB b e0 = pb := ⟨_, rfl⟩
          obtain ⟨pc, hpc⟩ : ∃ pc, op3 k pa pb = pc := ⟨_, rfl⟩
          rw [hpa, hpb, hpc] at Hst
          have Hpa := Lib.hid hpa
          have Hpb := Lib.hid hpb
          have Hpc := Lib.hid hpc
          clear hpa hpb hpc
          go_wp2_with fail
          refine (holds_is (H.out.below HBa.out) Hs.out (by omega) Hpa.out).mono ?_
          rintro e w7 ⟨rfl, hb7⟩
          have HB8 := Lib.hid hb7
          clear hb7
          go_wp2_with fail
          refine (holds_is ((H2.out.below HBa.out).below HB8.out) Hs2.out (by omega) Hpb.out).mono ?_
          rintro e w8 ⟨rfl, hb8⟩
          have HB9 := Lib.hid (below_trans HB8.out hb8)
          clear hb8 HB8
          go_wp2_with fail
          refine (Hg.out pa pb _).mono ?_
          rintro e w9 ⟨rfl, rfl⟩
          rw [Hpc.out]
          have y1' := cell_of_below HB9.out y1
          have HO9 : Hid (w8.ownsRow w6.heap.size 29 2 (.slice Az F.length cz) F.length (cR F)) := Lib.hid (HOz.out.kept (row := none) ⟨HB9.out.os, HB9.out.tape, HB9.out.output, HB9.out.size, fun i hi _ => HB9.out.block i hi⟩ (by
            cases Az with
            | none => exact .inl rfl
            | some ad => exact .inr (by simp [Value.ownBlock])))
          have HBq : Hid (RowKit.Below w6.heap.size wr w8) := Lib.hid (HB9.out.mono hz6)
          cases pc with
          | true =>
            rw [if_pos ⟨hlt3, rfl⟩] at Hst
            go_wp2_with fail
            refine (HJ.out _ HBq.out HO9.out).mono ?_
            rintro e w10 ⟨v10, rfl, ho10, hb10⟩
            have HO10 := Lib.hid ho10
            have HB10 := Lib.hid ((HBz.out.trans HBq.out).trans hb10)
            clear ho10 hb10
            go_wp2
            exact ⟨⟨q + 1, .inr hlt2, by go_num, by rw [Hst.out]; exact HO10.out, HB10.out⟩, by simp [intOf]; omega⟩
          | false =>
            rw [if_neg (fun h => by cases h.2)] at Hst
            go_wp2
            exact ⟨⟨q + 1, .inr hlt2, by go_num, by rw [Hst.out]; exact HO9.out, HBz.out.trans HBq.out⟩, by simp [intOf]; omega⟩
        · have hd : decide ((q : Int) + 1 < (E.length : Int)) = false := decide_eq_false (by omega)
          have hqE : q = E.length - 1 := by omega
          have Hq := Lib.hid hqE
          clear hqE
          go_wp2
          refine bodyPost_ret (v := .tuple #[.slice Az (pieces (fun n => op3 k (memB a n) (memB b n)) E q).length cz, .int .i64 0]) (by simp [results, Try.results40, go_sem]) rfl ⟨_, _, rfl, ?_, RdR.own HOz.out, HB7.out.trans (HBz.out.mono hw6)⟩
          rw [Hq.out]
          exact HMade.out
end Go.Proofs.Ytlbfkcgejpboeaa.Rs
