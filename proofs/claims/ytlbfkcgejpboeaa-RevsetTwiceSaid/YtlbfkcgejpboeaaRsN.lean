/-
  The reference's Set, Normalize and Both.
-/
import Derived.Test.YtlbfkcgejpboeaaRsM
namespace Go.Proofs.Ytlbfkcgejpboeaa.Rs
open Go.RowKit Go.Proofs Go.Sort
set_option linter.unusedVariables false
set_option linter.unusedSimpArgs false
set_option linter.unusedSectionVars false

theorem own_below {w w' : World} {base size n : Nat} {e : TypeId} {v : Value} {xs : List Value} (h : w.ownsRow base e size v n xs) (hb : RowKit.Below w.heap.size w w') : w'.ownsRow base e size v n xs :=
  h.kept (row := none) ⟨hb.os, hb.tape, hb.output, hb.size, fun i hi _ => hb.block i hi⟩ (by
    rcases h.2 with ⟨rfl, _⟩ | ⟨g, cap, cur, rfl, _⟩
    · exact .inl rfl
    · exact .inr (by simp [Value.ownBlock]))
theorem in_is {w : World} {v : Value} {rs : List R} {n : Int} {b : Bool} (h : RdR w v rs) (hb : memB rs n = b) :
    Calls Try.prog 22 #[v, .int .i64 n] w fun e w' => e = .returned (.bool b) ∧ RowKit.Below w.heap.size w w' := by
  rw [← hb]; exact in_calls h

set_option maxHeartbeats 4000000 in
set_option maxRecDepth 100000 in
theorem set_calls {w : World} {v u : Value} {a b : List R} {k : Nat} {K : Int}
    (hg : ∀ (x y : Bool) (W : World), Calls Try.prog 50 #[.bool x, .bool y, .int .i64 K] W fun e w' => e = .returned (.bool (op3 k x y)) ∧ W = w')
    (h : RdR w v a) (h2 : RdR w u b) (hs : ∀ r ∈ a, Sound r) (hs2 : ∀ r ∈ b, Sound r) (hl : a.length ≤ 10000) (hl2 : b.length ≤ 10000) :
    Calls Try.prog 39 #[v, u, .int .i64 K] w fun e w' => ∃ z s, e = .returned z ∧ Made k a b s ∧ RdR w' z s ∧ RowKit.Below w.heap.size w w' := by
  have H := Lib.hid h
  have H2 := Lib.hid h2
  have Hs := Lib.hid hs
  have Hs2 := Lib.hid hs2
  have Hg := Lib.hid hg
  obtain ⟨aa, ac, rfl, a1, a2, _⟩ := h
  obtain ⟨ba, bc, rfl, b1, b2, _⟩ := h2
  obtain ⟨L, hL⟩ : ∃ L, L = a ++ b := ⟨_, rfl⟩
  have hlab : L.length = a.length + b.length := by rw [hL]; simp
  have Hlab := Lib.hid hlab
  have Hsnd : Hid (∀ r ∈ L, Sound r) := Lib.hid fun r hr => (List.mem_append.1 (hL ▸ hr)).elim (hs r) (hs2 r)
  have hll : L.length ≤ 20000 := by omega
  have HL := Lib.hid hL
  clear hs hs2 hg hlab hL
  go_enter Try.func39, Try.ntmps39
  go_wp2_with (first
    | (at_builtin; refine wpList_append_R w.heap.size rfl (.const (.slice none 0 0)) (.tmp 16) rfl _ _ [] a rfl rfl (own_nil _ _ _ _) H.out (Nat.le_refl _) (by simp; omega) ?_; intro v1 w1 ho hg; have HO1 := Lib.hid ho; have HB1 := Lib.hid (below_grown (own_nil w w.heap.size 29 2) (Nat.le_refl _) hg); clear ho hg; obtain ⟨A1, c1, he1⟩ := own_form HO1.out; subst he1)
    | (at_builtin; refine wpList_append_R w.heap.size rfl (.tmp 17) (.tmp 18) rfl _ _ a b rfl rfl HO1.out (H2.out.below HB1.out) HB1.out.size (by omega) ?_; intro v2 w2 ho hg; rw [← HL.out] at ho; have HO2 := Lib.hid ho; have HB2 := Lib.hid (HB1.out.trans (below_grown HO1.out HB1.out.size hg)); clear ho hg; obtain ⟨A2, c2, he2⟩ := own_form HO2.out; subst he2))
  have HR4 := Lib.hid (RdR.own HO2.out)
  have hw4 : w.heap.size ≤ w2.heap.size := HB2.out.size
  clear HO1 HB1 HO2
  go_loopw [8, 22] (fun t i wr => ∃ j : Nat, j ≤ L.length ∧ i = .int .i64 j ∧ wr.ownsRow w2.heap.size 3 1 t (ends (L.take j)).length (cI (ends (L.take j))) ∧ RowKit.Below w2.heap.size w2 wr) (fun _ i _ => L.length - (intOf i).toNat)
  case atStart => exact ⟨0, Nat.zero_le _, rfl, own_nil _ _ _ _, RowKit.Below.refl _ _⟩
  case round =>
    obtain ⟨j, hj, rfl, ho, hb⟩ := hrel
    have HO := Lib.hid ho
    have HB := Lib.hid hb
    obtain ⟨A, c, rfl⟩ := own_form ho
    have hel : (ends (L.take j)).length ≤ 40000 := by rw [ends_len, List.length_take]; omega
    have hsz := hb.size
    clear ho hb
    by_cases hlt : j < L.length
    · obtain ⟨gg, o, rfl, hc⟩ := HR4.out.at_ hlt
      have x0 := cell_of_below HB.out (hc j hlt).1
      have x1 := cell_of_below HB.out (hc j hlt).2
      have Hst := Lib.hid (ends_snoc hlt)
      obtain ⟨hS1, hS2, hS3⟩ := Hsnd.out _ (getD_mem hlt)
      clear hc
      generalize ends (L.take j) = F at *
      generalize L.getD j (0, 0) = r at *
      obtain ⟨x, y⟩ := r
      simp only at hS1 hS2 hS3
      go_wp2_with (at_builtin; refine wpList_append_I w2.heap.size rfl _ _ rfl _ _ F [x, y + 1] rfl rfl ((HO.out.alloc _).alloc _) (by go_simp; exact RdI.block2 (by have := heap_alloc_new (wr.alloc (Obj.cells #[Value.int IntKind.i64 x, Value.int IntKind.i64 y] 29)) (Obj.cells #[Value.int IntKind.i64 x, Value.int IntKind.i64 (y + 1)] 3); simpa using this)) (by simp; omega) (by simp; omega) ?_; intro v1 w1 ho hg; have HO1 := Lib.hid ho; have HG1 := Lib.hid hg; clear ho hg)
      have hbb := ((HB.out.alloc hsz (Obj.cells #[Value.int IntKind.i64 x, Value.int IntKind.i64 y] 29)).alloc (by simp; omega) (Obj.cells #[Value.int IntKind.i64 x, Value.int IntKind.i64 (y + 1)] 3))
      exact ⟨⟨j + 1, by omega, by go_num, by rw [Hst.out]; exact HO1.out, below_of_grown hbb ((HO.out.alloc _).alloc _) HG1.out⟩, by simp [intOf]; omega⟩
    · have hf : L.take j = L := List.take_of_length_le (by omega)
      rw [hf] at HO hel
      rw [hf]
      clear hf
      have HSo := Lib.hid (ints_calls HO.out HB.out.size (by omega))
      go_wp2_with fail
      refine HSo.out.mono ?_
      rintro e w6 ⟨rfl, ho6, hb6⟩
      have HB7 := Lib.hid (HB2.out.trans ((HB.out.trans hb6).mono hw4))
      have hEs : (srt (ends L)).Pairwise (· ≤ ·) := srt_sorted _
      have hEm : ∀ e, e ∈ srt (ends L) ↔ e ∈ ends (a ++ b) := fun e => by rw [srt_mem, HL.out]
      have hEl : (srt (ends L)).length ≤ 2 * (a.length + b.length) := by
        have h2 := ends_len L
        have h3 := Hlab.out
        rw [srt_len]
        omega
      have HR6 := Lib.hid (RdI.own ho6)
      have hlen6 : (ends L).length = (srt (ends L)).length := (srt_len _).symm
      rw [hlen6] at HR6 ⊢
      clear ho6 hb6 HSo HB HO
      generalize srt (ends L) = E at *
      have HMade := Lib.hid (made_of (k := k) Hs.out Hs2.out hEs hEm hEl)
      have HSet := Lib.hid (pieces_set (k := k) Hs.out Hs2.out hEs hEm)
      have HEb := Lib.hid (ends_bound Hs.out Hs2.out hEm)
      have HEs := Lib.hid hEs
      have Hpl := Lib.hid (pieces_len (fun n => op3 k (memB a n) (memB b n)) E)
      have hl6 : E.length ≤ 40000 := by omega
      clear hEs hEm hEl hel hlen6
      have hw6 : w.heap.size ≤ w6.heap.size := HB7.out.size
      go_wp2
      go_loopw [11, 39] (fun t i wz => ∃ q : Nat, q ≤ E.length ∧ i = .int .i64 q ∧ wz.ownsRow w6.heap.size 29 2 t (pieces (fun n => op3 k (memB a n) (memB b n)) E (min q (E.length - 1))).length (cR (pieces (fun n => op3 k (memB a n) (memB b n)) E (min q (E.length - 1)))) ∧ RowKit.Below w6.heap.size w6 wz) (fun _ i _ => (E.length - (intOf i).toNat))
      case atStart => exact ⟨0, Nat.zero_le _, rfl, by rw [Nat.zero_min]; exact own_nil _ _ _ _, RowKit.Below.refl _ _⟩
      case round =>
        obtain ⟨q, hq, rfl, hoz, hbz⟩ := hrel
        have HOz := Lib.hid hoz
        have HBz := Lib.hid hbz
        obtain ⟨Az, cz, rfl⟩ := own_form hoz
        clear hoz hbz
        have hz6 : w6.heap.size ≤ wr.heap.size := HBz.out.size
        by_cases hlt1 : q < E.length
        · obtain ⟨g6, o6, rfl, hc6⟩ := HR6.out.at_ (k := q) (by omega)
          have y0 := cell_of_below HBz.out (hc6 q (by omega))
          by_cases hlt2 : q + 1 < E.length
          · have y1 := cell_of_below HBz.out (hc6 (q + 1) (by omega))
            rw [show min q (E.length - 1) = q by omega] at HOz ⊢
            have hS := HSet.out q (by omega)
            have hle3 : E.getD q 0 ≤ E.getD (q + 1) 0 := by
              have gg : ∀ j, (hj : j < E.length) → E.getD j 0 = E[j] := fun j hj => by rw [List.getD_eq_getElem?_getD, List.getElem?_eq_getElem hj]; rfl
              rw [gg q (by omega), gg (q + 1) hlt2]
              exact List.pairwise_iff_getElem.1 HEs.out q (q + 1) (by omega) hlt2 (by omega)
            have hb1 := HEb.out _ (getD_int (k := q) (l := E) (by omega))
            have hb2 := HEb.out _ (getD_int (k := q + 1) (l := E) hlt2)
            have Hst : Hid (pieces (fun n => op3 k (memB a n) (memB b n)) E (min (q + 1) (E.length - 1)) = if E.getD q 0 < E.getD (q + 1) 0 ∧ op3 k (memB a (E.getD q 0)) (memB b (E.getD q 0)) = true then joinL (pieces (fun n => op3 k (memB a n) (memB b n)) E q) (E.getD q 0, E.getD (q + 1) 0 - 1) else pieces (fun n => op3 k (memB a n) (memB b n)) E q) := Lib.hid (by
              rw [show min (q + 1) (E.length - 1) = q + 1 by omega]; rfl)
            have hpl := Hpl.out q
            have HSet1 := Lib.hid hS.1.1
            have HSet2 := Lib.hid hS.2
            have hdq : (((q : Int) + 1) == (E.length : Int)) = false := by simp; omega
            clear hc6 hS
            generalize pieces (fun n => op3 k (memB a n) (memB b n)) E q = F at *
            generalize E.getD q 0 = e0 at *
            generalize E.getD (q + 1) 0 = e1 at *
            by_cases heq : e1 = e0
            · have hdd : (e1 == e0) = true := by simp [heq]
              have hst : pieces (fun n => op3 k (memB a n) (memB b n)) E (min (q + 1) (E.length - 1)) = F := by rw [Hst.out, if_neg (by omega)]
              have Hst2 := Lib.hid hst
              clear heq hst
              go_wp2
              exact ⟨⟨q + 1, by omega, by go_num, by rw [Hst2.out]; exact HOz.out, HBz.out⟩, by simp [intOf]; omega⟩
            · have hdd : (e1 == e0) = false := by simpa using heq
              have hlt3 : e0 < e1 := by omega
              have HBa := Lib.hid (HB7.out.trans (HBz.out.mono hw6))
              obtain ⟨pa, hpa⟩ : ∃ pa, memB a e0 = pa := ⟨_, rfl⟩
              obtain ⟨pb, hpb⟩ : ∃ pb, memB b e0 = pb := ⟨_, rfl⟩
              obtain ⟨pc, hpc⟩ : ∃ pc, op3 k pa pb = pc := ⟨_, rfl⟩
              rw [hpa, hpb, hpc] at Hst
              have Hpa := Lib.hid hpa
              have Hpb := Lib.hid hpb
              have Hpc := Lib.hid hpc
              clear hpa hpb hpc heq
              go_wp2_with fail
              refine (in_is (H.out.below HBa.out) Hpa.out).mono ?_
              rintro e w7 ⟨rfl, hb7⟩
              have HB8 := Lib.hid hb7
              clear hb7
              go_wp2_with fail
              refine (in_is ((H2.out.below HBa.out).below HB8.out) Hpb.out).mono ?_
              rintro e w8 ⟨rfl, hb8⟩
              have HB9 := Lib.hid (below_trans HB8.out hb8)
              clear hb8 HB8
              go_wp2_with fail
              refine (Hg.out pa pb _).mono ?_
              rintro e w9 ⟨rfl, rfl⟩
              rw [Hpc.out]
              have y1' := cell_of_below HB9.out y1
              have HO9 := Lib.hid (own_below HOz.out HB9.out)
              have HBq : Hid (RowKit.Below w6.heap.size wr w8) := Lib.hid (HB9.out.mono hz6)
              cases pc with
              | false =>
                rw [if_neg (fun h => by cases h.2)] at Hst
                go_wp2
                exact ⟨⟨q + 1, by omega, by go_num, by rw [Hst.out]; exact HO9.out, HBz.out.trans HBq.out⟩, by simp [intOf]; omega⟩
              | true =>
                rw [if_pos ⟨hlt3, rfl⟩] at Hst
                have HBr := Lib.hid (HBz.out.trans HBq.out)
                have hz8 : w6.heap.size ≤ w8.heap.size := HBr.out.size
                clear HBa HB9 HBq HBz HOz y0 y1
                rcases snoc_cases F with hF | ⟨m, p, hF⟩
                · subst hF
                  go_wp2_with (at_builtin; refine wpList_append_R w6.heap.size rfl _ _ rfl _ _ [] [(e0, e1 - 1)] rfl rfl ((HO9.out.alloc _).alloc _) (by go_simp; exact RdR.block (by have := heap_alloc_new (w8.alloc (Obj.cells #[Value.int IntKind.i64 e0, Value.int IntKind.i64 (e1 - 1)] 29)) (Obj.cells #[Value.int IntKind.i64 e0, Value.int IntKind.i64 (e1 - 1)] 29); simpa using this)) (by simp; omega) (by simp) ?_; intro v1 w1 ho hg; have HO1 := Lib.hid ho; have HG1 := Lib.hid hg; clear ho hg)
                  have hbb := ((HBr.out.alloc hz8 (Obj.cells #[Value.int IntKind.i64 e0, Value.int IntKind.i64 (e1 - 1)] 29)).alloc (by simp; omega) (Obj.cells #[Value.int IntKind.i64 e0, Value.int IntKind.i64 (e1 - 1)] 29))
                  exact ⟨⟨q + 1, by omega, by go_num, by rw [Hst.out]; exact HO1.out, below_of_grown hbb ((HO9.out.alloc _).alloc _) HG1.out⟩, by simp [intOf]; omega⟩
                · subst hF
                  obtain ⟨px, py⟩ := p
                  have hp1 := HSet2.out (px, py) (by simp)
                  obtain ⟨hp2, hp3, hp4⟩ := HSet1.out (px, py) (by simp)
                  simp only at hp1 hp2 hp3 hp4
                  rw [joinL_snoc] at Hst
                  have hlen : (m ++ [(px, py)]).length = m.length + 1 := by simp
                  have hml : m.length ≤ 100000 := by rw [hlen] at hpl; omega
                  obtain ⟨gz, capz, hv, hgb, hgs⟩ := HO9.out.form (by simp)
                  injection hv with hv1 hv2 hv3
                  subst hv1 hv3
                  have hpc : w8.cell? ⟨gz, m.length * 2 + 1, none⟩ = some (.int .i64 py) := (HO9.out.cellAt (m.length * 2 + 1) (by rw [hlen]; omega)).trans ((cR_get (rs := m ++ [(px, py)]) (i := m.length) (by simp)).2.trans (by simp))
                  have hpf := HO9.out.frozenAt (m.length * 2 + 1)
                  have hA : RowKit.Below w8.heap.size w8 (w8.alloc (Obj.cells #[Value.int IntKind.i64 e0, Value.int IntKind.i64 (e1 - 1)] 29)) := (RowKit.Below.refl _ _).alloc (Nat.le_refl _) _
                  have HO10 := Lib.hid (own_below HO9.out hA)
                  have hpc2 := cell_of_below hA hpc
                  have hpf2 := HO10.out.frozenAt (m.length * 2 + 1)
                  have HBs := Lib.hid (HBr.out.trans (hA.mono hz8))
                  by_cases hj : py + 1 = e0
                  · have hdj : (py + 1 == e0) = true := by simpa using hj
                    rw [if_pos (by show e0 ≤ py + 1; omega)] at Hst
                    have hmx : max py (e1 - 1) = e1 - 1 := by omega
                    simp only [hmx] at Hst
                    have Hset := Lib.hid (cR_set m (px, py) (e1 - 1))
                    have HO11 : Hid (w8.ownsRow w6.heap.size 29 2 (.slice (some ⟨gz, 0, none⟩) (m.length + 1) cz) (m.length + 1) (cR (m ++ [(px, py)]))) := Lib.hid (hlen ▸ HO9.out)
                    clear hj hlen hA hmx HO10 HO9
                    go_wp2
                    have hst := HO11.out.stored (m.length * 2 + 1) (.int .i64 (e1 - 1))
                    rw [Hset.out] at hst
                    refine ⟨⟨q + 1, by omega, by go_num, ?_, (HBr.out.grown hst.2 hz8 (fun k hk => by have e : gz = k := Option.some.inj hk; omega)).alloc (by simp; omega) _⟩, by simp [intOf]; omega⟩
                    rw [Hst.out]
                    have e : (m ++ [(px, e1 - 1)]).length = m.length + 1 := by simp
                    rw [e]
                    exact hst.1.alloc _
                  · have hdj : (py + 1 == e0) = false := by simpa using hj
                    rw [if_neg (by show ¬ e0 ≤ py + 1; omega)] at Hst
                    have hO12 : (w8.alloc (Obj.cells #[Value.int IntKind.i64 e0, Value.int IntKind.i64 (e1 - 1)] 29)).ownsRow w6.heap.size 29 2 (.slice (some ⟨gz, 0, none⟩) (m.length + 1) cz) (m ++ [(px, py)]).length (cR (m ++ [(px, py)])) := hlen ▸ HO10.out
                    have HO12 := Lib.hid hO12
                    have Hlen := Lib.hid hlen
                    clear hj hlen hA HO10 HO9 hO12
                    go_wp2_with (at_builtin; refine wpList_append_R w6.heap.size rfl _ _ rfl _ _ (m ++ [(px, py)]) [(e0, e1 - 1)] rfl rfl (HO12.out.alloc _) (by go_simp; exact RdR.block (by have := heap_alloc_new (w8.alloc (Obj.cells #[Value.int IntKind.i64 e0, Value.int IntKind.i64 (e1 - 1)] 29)) (Obj.cells #[Value.int IntKind.i64 e0, Value.int IntKind.i64 (e1 - 1)] 29); simpa using this)) (by simp; omega) (by rw [Hlen.out] at hpl; rw [Hlen.out]; simp; omega) ?_; intro v1 w1 ho hg; have HO1 := Lib.hid ho; have HG1 := Lib.hid hg; clear ho hg)
                    have hbb := (HBs.out.alloc (by simp; omega) (Obj.cells #[Value.int IntKind.i64 e0, Value.int IntKind.i64 (e1 - 1)] 29))
                    exact ⟨⟨q + 1, by omega, by go_num, by rw [Hst.out]; exact HO1.out, below_of_grown hbb (HO12.out.alloc _) HG1.out⟩, by simp [intOf]; omega⟩
          · have hdq : (((q : Int) + 1) == (E.length : Int)) = true := by simp; omega
            rw [show min q (E.length - 1) = q by omega] at HOz ⊢
            have hq1 : min (q + 1) (E.length - 1) = q := by omega
            have Hq1 := Lib.hid hq1
            clear hc6 hq1
            go_wp2
            exact ⟨⟨q + 1, by omega, by go_num, by rw [Hq1.out]; exact HOz.out, HBz.out⟩, by simp [intOf]; omega⟩
        · have hqE : min q (E.length - 1) = E.length - 1 := by omega
          rw [hqE] at HOz ⊢
          clear hqE
          go_wp2
          go_ret
          exact ⟨_, _, rfl, HMade.out, RdR.own HOz.out, HB7.out.trans (HBz.out.mono hw6)⟩
end Go.Proofs.Ytlbfkcgejpboeaa.Rs
