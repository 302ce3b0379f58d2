/-
  Byte strings that are copied and joined: slices.Clone, slices.Grow, slices.Concat at []byte; the four functions of a map of files.
-/
import Derived.Test.YtalnhdeckdakfaaDevB
import Derived.Lib.AppendZeros
import Derived.Maps.AppendAt
import Derived.Lib.SliceRun
namespace Go.Proofs.Ytalnhdeckdakfaa.Dev
open Go.RowKit Go.Proofs
set_option linter.unusedVariables false
set_option linter.unusedSectionVars false
set_option linter.unusedSimpArgs false
variable [Bs]

def u8s (xs : List Int) : List Value := xs.map (.int .u8)
theorem u8s_length (xs : List Int) : (u8s xs).length = xs.length := by simp [u8s]
theorem u8s_append (xs ys : List Int) : u8s (xs ++ ys) = u8s xs ++ u8s ys := by simp [u8s]
theorem u8s_get {xs : List Int} {i : Nat} (h : i < xs.length) : (u8s xs)[i]? = some (.int .u8 (xs.getD i 0)) := by
  simp [u8s, List.getElem?_eq_getElem h, List.getD_eq_getElem?_getD]
theorem add_plain (g j : Nat) : (⟨g, 0, none⟩ : Addr).add j = ⟨g, j, none⟩ := by unfold Addr.add; split <;> simp_all
/-- A row of the call's own reads as bytes. -/
theorem Rd.own {w : World} {base n : Nat} {v : Value} {xs : List Int} (h : w.ownsRow base 5 1 v n (u8s xs)) : Rd w v xs := by
  have hl : xs.length = n := by have := h.1; simpa [u8s] using this
  subst hl
  rcases h.2 with ⟨rfl, h0⟩ | ⟨g, cap, cur, rfl, hb, hh, hnc, hcm, hcs, ht⟩
  · rw [List.length_eq_zero_iff.1 h0]
    exact ⟨none, 0, rfl, Nat.le_refl _, by omega, fun i hi => absurd hi (by simp)⟩
  · refine ⟨_, cap, rfl, hnc, by simpa [maxLen] using hcm, fun i hi => ⟨_, rfl, ?_, .inr ⟨_, _, hh⟩⟩⟩
    exact h.cells (g := g) rfl i _ (u8s_get hi)
theorem own_form {w : World} {base n : Nat} {e : TypeId} {v : Value} {xs : List Value} (h : w.ownsRow base e 1 v n xs) : ∃ a c, v = .slice a n c := by
  rcases h.2 with ⟨rfl, rfl⟩ | ⟨g, cap, cur, rfl, _⟩
  · exact ⟨none, 0, rfl⟩
  · exact ⟨_, cap, rfl⟩
theorem own_base {w : World} {base : Nat} {e : TypeId} {size n : Nat} {v : Value} {xs : List Value} (h : w.ownsRow base e size v n xs) (k : Nat) (hk : v.ownBlock = some k) : base ≤ k := by
  rcases h.2 with ⟨rfl, _⟩ | ⟨g, cap, cur, rfl, hb, _⟩
  · simp [Value.ownBlock] at hk
  · have : g = k := by simpa [Value.ownBlock] using hk
    omega
theorem own_nil (W : World) (base : Nat) (e : TypeId) (size : Nat) : W.ownsRow base e size (.slice none 0 0) 0 [] := ⟨by simp, .inl ⟨rfl, rfl⟩⟩
theorem info5 : (Try.prog.info? 5).map (fun i => (i.zero, i.size, i.bytes)) = some (some (.int .u8 0), 1, 1) := by kernel_rfl
theorem Rd.len {w : World} {a : Option Addr} {n c : Nat} {xs : List Int} (h : Rd w (.slice a n c) xs) : xs.length = n := by
  obtain ⟨a', c', he, _⟩ := h; injection he with _ h1 _; exact h1.symm

section
variable {P : Program} {ops : Array Oper} {rest : List Oper} {o : Oper} {a : Act} {Q : Exit → Act → World → Prop}
/-- append(v, x...): v a row of the call's own, x bytes that are read. -/
theorem run_append_rd {W : World} (base : Nat) (t ty e : TypeId) (ht : P.underlying t = some (.slice e)) (hinfo : (P.info? e).map (fun i => (i.zero, i.size, i.bytes)) = some (some (.int .u8 0), 1, 1))
    (v x : Value) (xs ys : List Int) (HO : W.ownsRow base e 1 v xs.length (u8s xs)) (HR : Rd W x ys) (hbase : base ≤ W.heap.size) (hl : xs.length + ys.length ≤ 140737488355328) :
    ∃ v1 w1, (Builtin.append_ #[t, t] ty #[v, x]).run P W = .ok v1 w1 ∧ w1.ownsRow base e 1 v1 (xs ++ ys).length (u8s (xs ++ ys)) ∧ W.grownBy w1 v.ownBlock ∧ (v1.ownBlock = v.ownBlock ∨ v1.ownBlock = some W.heap.size) := by
  obtain ⟨i0, hi, hzz⟩ := Option.map_eq_some_iff.1 hinfo
  simp only [Prod.mk.injEq] at hzz
  obtain ⟨hz0, hz1, hz2⟩ := hzz
  obtain ⟨A, c, rfl, h1, h2, hc⟩ := HR
  rcases A with _ | ad
  · have h0 : ys = [] := by
      cases ys with
      | nil => rfl
      | cons y ys => obtain ⟨ad, h, _⟩ := hc 0 (by simp); cases h
    subst h0
    refine ⟨v, W, ?_, by simpa using HO, World.grownBy.refl W _, .inl rfl⟩
    rcases HO.2 with ⟨rfl, hn⟩ | ⟨g, cap, cur, rfl, _, _, hnc, _⟩
    · simp [Builtin.append_, run_underlying ht, sizeOf, typeInfo, hi, Builtin.lenOf, Builtin.firstCells]
    · simp [Builtin.append_, run_underlying ht, sizeOf, typeInfo, hi, Builtin.lenOf, Builtin.firstCells, hnc, storeCells]
  · obtain ⟨v1, w1, hr, h2, h3, _, h5⟩ := run_append_own_at (P := P) W base t ty e i0 (.int .u8 0) 1 1 ht hi hz0 hz1 hz2 rfl (by omega) v xs.length (u8s xs) HO ad ys.length c (u8s ys) (by simp [u8s])
      (fun j u hu => by
        have hj : j < ys.length := by
          rcases Nat.lt_or_ge j ys.length with h | h
          · exact h
          · simp [u8s, List.getElem?_eq_none h] at hu
        rw [u8s_get hj] at hu
        cases hu
        obtain ⟨ad', e', hcell, _⟩ := hc j hj
        cases e'
        exact hcell)
      (by intro u hu; simp only [u8s, List.mem_map] at hu; obtain ⟨q, _, rfl⟩ := hu; rfl) (by simp only [maxLen]; omega) (by omega) hbase
    exact ⟨v1, w1, hr, by rw [List.length_append, u8s_append]; exact h2, h3, h5⟩
theorem wpList_append_rd {W : World} (base : Nat) (hgd : o.guard = none) (s x : Operand) (t e : TypeId)
    (ho : o.op = .call { callee := .builtin .append, args := #[s, x], argTypes := #[t, t] })
    (ht : P.underlying t = some (.slice e)) (hinfo : (P.info? e).map (fun i => (i.zero, i.size, i.bytes)) = some (some (.int .u8 0), 1, 1))
    (v vx : Value) (xs ys : List Int) (hs : a.eval s = v) (hx : a.eval x = vx) (HO : W.ownsRow base e 1 v xs.length (u8s xs)) (HR : Rd W vx ys) (hbase : base ≤ W.heap.size) (hl : xs.length + ys.length ≤ 140737488355328)
    (h : ∀ v1 w1, w1.ownsRow base e 1 v1 (xs ++ ys).length (u8s (xs ++ ys)) → W.grownBy w1 v.ownBlock → wpList P ops Q rest (a.put o.dst v1) w1) :
    wpList P ops Q (o :: rest) a W := by
  obtain ⟨v1, w1, hr, h2, h3, _⟩ := run_append_rd (P := P) base t o.type e ht hinfo v vx xs ys HO HR hbase hl
  exact Lib.wpList_append_run W hgd s x t t ho v vx hs hx v1 w1 hr (h v1 w1 h2 h3)
end

theorem below_of_grown {w w1 w2 : World} {v : Value} {n : Nat} {e : TypeId} {xs : List Value} (h : Below w.heap.size w w1) (ho : w1.ownsRow w.heap.size e 1 v n xs) (hg : w1.grownBy w2 v.ownBlock) : Below w.heap.size w w2 :=
  h.grown hg h.size (fun k hk => own_base ho k hk)

set_option maxHeartbeats 400000 in
theorem cloneB_calls {w : World} {v : Value} {xs : List Int} (h : Rd w v xs) (hl : xs.length ≤ 140737488355328) :
    Calls Try.prog 60 #[v] w fun e w' => ∃ v1, e = .returned v1 ∧ w'.ownsRow w.heap.size 5 1 v1 xs.length (u8s xs) ∧ Below w.heap.size w w' := by
  obtain ⟨A, c, rfl, h1, h2, hc⟩ := h
  rcases A with _ | ad
  · have h0 : xs = [] := by
      cases xs with
      | nil => rfl
      | cons y ys => obtain ⟨ad, h, _⟩ := hc 0 (by simp); cases h
    subst h0
    have hnil := Lib.run_eql_slice_nil (P := Try.prog) w 32 5 none 0 c 0 0 Try.underlying32
    go_enter Try.func60, Try.ntmps60
    go_wp2
    go_ret
    exact ⟨_, rfl, own_nil _ _ _ _, Below.refl _ _⟩
  · have hnil := Lib.run_eql_slice_nil (P := Try.prog) w 32 5 (some ad) xs.length c 0 0 Try.underlying32
    have hR : Rd w (.slice (some ad) xs.length c) xs := ⟨_, c, rfl, h1, h2, hc⟩
    have HR := Lib.hid hR
    clear hc hR
    go_enter Try.func60, Try.ntmps60
    go_wp2_with (at_builtin; refine wpList_append_rd w.heap.size rfl _ _ 32 5 rfl Try.underlying32 info5 _ _ [] xs rfl rfl ?o1 ?o2 ?o3 ?o4 ?_; (case o1 => exact World.ownsRow_lit w #[] 0 (Nat.le_refl _) (by simp [maxLen]) rfl); (case o2 => exact U8.below ((Below.refl _ _).alloc (Nat.le_refl _) _) _ _ HR.out); (case o3 => simp); (case o4 => simpa using hl); intro v1 w1 ho hg; have HO := Lib.hid ho; have HG := Lib.hid hg; clear ho hg)
    go_ret
    refine ⟨_, rfl, by simpa using HO.out, ?_⟩
    refine ((Below.refl _ _).alloc (Nat.le_refl _) _).grown HG.out (by simp) (fun k hk => ?_)
    have hk' : some w.heap.size = some k := hk
    injection hk' with hk'
    omega

set_option maxRecDepth 20000 in
theorem grow_nil {w : World} {n : Nat} (hn : n ≤ 140737488355328) :
    Calls Try.prog 80 #[.slice none 0 0, .int .i64 n] w fun e w' => ∃ v1, e = .returned v1 ∧ w'.ownsRow w.heap.size 5 1 v1 0 [] ∧ Below w.heap.size w w' := by
  obtain ⟨i0, hi, hzz⟩ := Option.map_eq_some_iff.1 info5
  simp only [Prod.mk.injEq] at hzz
  obtain ⟨hz0, hz1, hz2⟩ := hzz
  by_cases h0 : n = 0
  · subst h0
    go_enter Try.func80, Try.ntmps80
    go_wp2
    go_ret
    exact ⟨_, rfl, own_nil _ _ _ _, Below.refl _ _⟩
  · have hd : decide ((n : Int) < 0) = false := by simp
    have hd1 : decide (0 < (n : Int)) = true := by simp; omega
    have hr := Lib.run_append_nil_zeros (P := Try.prog) w 32 3 32 5 i0 (.int .u8 0) .i64 .i64 Try.underlying32 Try.underlying3 hi hz0 n (by omega) (by omega) (by omega) (by rw [hz2]; omega)
    clear hi hz0 hz1 hz2
    go_enter Try.func80, Try.ntmps80
    have HR := Lib.hid hr
    clear hr
    go_wp2_with (at_builtin; refine Lib.wpList_append_run w rfl _ _ _ _ rfl _ _ rfl rfl _ _ HR.out ?_; clear HR)
    go_ret
    have hge := grownCap_ge w n 0 5
    have hle := grownCap_le_maxLen w n 0 5 (by simp only [maxLen]; omega)
    refine ⟨_, rfl, ⟨by simp, .inr ⟨w.heap.size, grownCap w n 0 5, _, rfl, Nat.le_refl _, heap_alloc_new w _, Nat.zero_le _, hle, ?_, by simp⟩⟩, ((Below.refl _ _).alloc (Nat.le_refl _) _).drew⟩
    simp [Builtin.zeroCells]
    omega

/-- a list of values, each read as bytes -/
def RdAll (w : World) (vs : List Value) (ls : List (List Int)) : Prop := vs.length = ls.length ∧ ∀ i, i < vs.length → Rd w (vs.getD i (.slice none 0 0)) (ls.getD i [])
theorem RdAll.move {w w' : World} {vs : List Value} {ls : List (List Int)} (h : RdAll w vs ls) (hu : U8 w w') : RdAll w' vs ls := ⟨h.1, fun i hi => hu _ _ (h.2 i hi)⟩
def total (ls : List (List Int)) : Nat := (ls.map List.length).sum
theorem total_take (ls : List (List Int)) (k : Nat) (hk : k < ls.length) : total (ls.take (k + 1)) = total (ls.take k) + (ls.getD k []).length := by
  have h2 : ls.getD k [] = ls[k] := by simp [List.getD_eq_getElem?_getD, List.getElem?_eq_getElem hk]
  unfold total
  rw [List.take_succ_eq_append_getElem hk, List.map_append, List.sum_append, h2]
  simp only [List.map_cons, List.map_nil, List.sum_cons, List.sum_nil, Nat.add_zero]
theorem total_le (ls : List (List Int)) (k : Nat) : total (ls.take k) ≤ total ls := by
  have : total ls = total (ls.take k) + total (ls.drop k) := by
    unfold total
    rw [← List.sum_append, ← List.map_append, List.take_append_drop]
  omega
theorem flat_take (ls : List (List Int)) (k : Nat) (hk : k < ls.length) : (ls.take (k + 1)).flatten = (ls.take k).flatten ++ ls.getD k [] := by
  have h2 : ls.getD k [] = ls[k] := by simp [List.getD_eq_getElem?_getD, List.getElem?_eq_getElem hk]
  rw [List.take_succ_eq_append_getElem hk, List.flatten_append, h2]
  simp only [List.flatten_cons, List.flatten_nil, List.append_nil]
theorem flat_len (ls : List (List Int)) : ls.flatten.length = total ls := by simp [total, List.length_flatten]

set_option maxHeartbeats 1000000 in
set_option maxRecDepth 20000 in
theorem concat_calls {w : World} {a : Nat} {vs : List Value} {ls : List (List Int)} (hR : RdAll w vs ls) (hc : ∀ i, i < vs.length → w.cell? ⟨a, i, none⟩ = some (vs.getD i (.slice none 0 0)))
    (hn : vs.length ≤ 1000) (hl : total ls ≤ 140737488355328) :
    Calls Try.prog 77 #[.slice (some ⟨a, 0, none⟩) vs.length vs.length] w fun e w' => ∃ v1, e = .returned v1 ∧ w'.ownsRow w.heap.size 5 1 v1 ls.flatten.length (u8s ls.flatten) ∧ Below w.heap.size w w' := by
  have hlen := hR.1
  have HR := Lib.hid hR
  have HC := Lib.hid hc
  have HL := Lib.hid hl
  have Hlen := Lib.hid hlen
  have hlen' : ls.length ≤ vs.length := by omega
  have hlen'' : vs.length ≤ ls.length := by omega
  clear hR hc hl hlen
  go_enter Try.func77, Try.ntmps77
  go_wp2
  go_loop [3, 11] (fun s i => ∃ k : Nat, k ≤ vs.length ∧ i = .int .i64 k ∧ s = .int .i64 (total (ls.take k))) (fun _ i => vs.length - (intOf i).toNat)
  case atStart => exact ⟨0, Nat.zero_le _, rfl, by simp [total]⟩
  case round =>
    obtain ⟨k, hk, rfl, rfl⟩ := hrel
    have Htl := Lib.hid (Nat.le_trans (total_le ls k) HL.out)
    by_cases hlt : k < vs.length
    · have hcell := HC.out k hlt
      obtain ⟨A, c, hv, h1, h2, h3⟩ := HR.out.2 k hlt
      have Htt := Lib.hid (total_take ls k (by omega))
      have Htl2 := Lib.hid (Nat.le_trans (total_le ls (k + 1)) HL.out)
      rw [hv] at hcell
      clear hv h1 h2 h3
      have hb : total (ls.take k) + (ls.getD k []).length ≤ 140737488355328 := by rw [← Htt.out]; exact Htl2.out
      have hb2 : (total (ls.take k) : Int) + ((ls.getD k []).length : Int) ≤ 140737488355328 := by omega
      have hb3 : decide ((total (ls.take k) : Int) + ((ls.getD k []).length : Int) < 0) = false := by simp; omega
      generalize (ls.getD k []).length = m at *
      generalize total (ls.take k) = q at *
      go_wp2
      refine ⟨⟨k + 1, by omega, by go_num, by rw [Htt.out]; go_num⟩, by simp [intOf]; omega⟩
    · have hkk : k = vs.length := by omega
      have htk : total (ls.take k) = total ls := by rw [List.take_of_length_le (by omega)]
      have hq := HL.out
      rw [htk]
      clear hkk htk Htl
      have Hfl := Lib.hid (flat_len ls)
      generalize htq : total ls = q at *
      clear htq HL
      go_wp2_with (go_at_call 80; (with_reducible refine (grow_nil hq).mono ?_); rintro e w1 ⟨v1, rfl, ho, hb⟩; have HO := Lib.hid ho; have HB := Lib.hid hb; clear ho hb; obtain ⟨A1, c1, he1⟩ := own_form HO.out; subst he1)
      go_loopw [6, 27] (fun v i wr => ∃ k : Nat, k ≤ vs.length ∧ i = .int .i64 k ∧ wr.ownsRow w.heap.size 5 1 v (ls.take k).flatten.length (u8s (ls.take k).flatten) ∧ Below w.heap.size w wr) (fun _ i _ => vs.length - (intOf i).toNat)
      case atStart => exact ⟨0, Nat.zero_le _, rfl, by simpa [u8s] using HO.out, HB.out⟩
      case round =>
        obtain ⟨k, hk, rfl, ho, hB⟩ := hrel
        have HO2 := Lib.hid ho
        have HB2 := Lib.hid hB
        obtain ⟨A2, c2, he2⟩ := own_form ho
        clear ho hB HO HB
        subst he2
        by_cases hlt : k < vs.length
        · have hcell := cell_of_below HB2.out (HC.out k hlt)
          have hRk := U8.below HB2.out _ _ (HR.out.2 k hlt)
          have Hft := Lib.hid (flat_take ls k (by omega))
          have HRk := Lib.hid hRk
          have hle1 : (ls.take k).flatten.length + (ls.getD k []).length ≤ 140737488355328 := by
            have h1 := flat_len (ls.take (k + 1))
            have h2 := total_le ls (k + 1)
            have h3 := Hfl.out
            rw [flat_len] at h3
            rw [Hft.out, List.length_append] at h1
            omega
          have Hle1 := Lib.hid hle1
          clear hRk hle1
          obtain ⟨A3, c3, hv3, _⟩ := HRk.out
          rw [hv3] at hcell HRk
          clear hv3
          generalize (ls.getD k []) = m at *
          generalize (ls.take k).flatten = q2 at *
          go_wp2_with (at_builtin; refine wpList_append_rd w.heap.size rfl _ _ 32 5 rfl Try.underlying32 info5 _ _ q2 m rfl rfl HO2.out HRk.out HB2.out.size Hle1.out ?_; intro v5 w5 ho5 hg5; have HO5 := Lib.hid ho5; have HB5 := Lib.hid (below_of_grown HB2.out HO2.out hg5); clear ho5 hg5)
          refine ⟨⟨k + 1, by omega, by go_num, by rw [Hft.out]; exact HO5.out, HB5.out⟩, by simp [intOf]; omega⟩
        · have hkk : ls.take k = ls := List.take_of_length_le (by omega)
          have Hkk := Lib.hid hkk
          clear hkk
          go_wp2
          go_ret
          refine ⟨.slice A2 (List.take k ls).flatten.length c2, rfl, ?_, HB2.out⟩
          have h := HO2.out
          rw [Hkk.out] at h ⊢
          exact h

/-! The four functions of a map of files. S: the map's block alone has turned, and what is new. -/
/-- Only the blocks of S have turned, and what is new. -/
structure Fr (S : Nat → Prop) (w w' : World) : Prop where
  os : w'.os = w.os
  tape : w'.tape = w.tape
  output : w'.output = w.output
  size : w.heap.size ≤ w'.heap.size
  block : ∀ i, i < w.heap.size → ¬ S i → w'.heap[i]? = w.heap[i]?
theorem Fr.refl (S : Nat → Prop) (w : World) : Fr S w w := ⟨rfl, rfl, rfl, Nat.le_refl _, fun _ _ _ => rfl⟩
theorem Fr.below {S : Nat → Prop} {w w' : World} (h : Below w.heap.size w w') : Fr S w w' := ⟨h.os, h.tape, h.output, h.size, fun i hi _ => h.block i hi⟩
theorem Fr.trans {S : Nat → Prop} {a b c : World} (h : Fr S a b) (k : Fr S b c) : Fr S a c :=
  ⟨k.os.trans h.os, k.tape.trans h.tape, k.output.trans h.output, Nat.le_trans h.size k.size, fun i hi hs => (k.block i (Nat.lt_of_lt_of_le hi h.size) hs).trans (h.block i hi hs)⟩
theorem Fr.mono {S T : Nat → Prop} {a b : World} (h : Fr S a b) (hs : ∀ i, i < a.heap.size → S i → T i) : Fr T a b := ⟨h.os, h.tape, h.output, h.size, fun i hi hn => h.block i hi fun h' => hn (hs i hi h')⟩
theorem Fr.setO {S : Nat → Prop} {w : World} {r : Nat} (hr : S r) (o : Obj) : Fr S w (w.setO r o) := ⟨rfl, rfl, rfl, by simp, fun i hi hn => setO_ne fun e => hn (e ▸ hr)⟩
theorem Fr.setCell {S : Nat → Prop} {w : World} {p : Addr} (hr : S p.block) (v : Value) : Fr S w (w.setCell p v) := ⟨rfl, rfl, rfl, by simp [World.setCell], fun i hi hn => Below.heap_setCell w p v i fun e => hn (e ▸ hr)⟩
theorem Fr.alloc {S : Nat → Prop} {w : World} (o : Obj) : Fr S w (w.alloc o) := Fr.below ((Below.refl _ _).alloc (Nat.le_refl _) _)
theorem Fr.drewN {S : Nat → Prop} {w : World} (n : Nat) : Fr S w (w.drewN n) := ⟨rfl, rfl, rfl, Nat.le_refl _, fun _ _ _ => rfl⟩
theorem Fr.u8 {S : Nat → Prop} {w w' : World} (h : Fr S w w') (hs : ∀ i, S i → ¬ Own8 w i) : U8 w w' :=
  U8.of fun i hi ho => h.block i hi fun e => hs i e ho
/-- The map at block r is fs. -/
def MapI (w : World) (r : Nat) (fs : FS) : Prop := Bs.n ≤ r ∧ ∃ es clock, w.heap[r]? = some (.map es clock) ∧ FSR w es.toList fs ∧ St es clock
theorem MapI.lt {w : World} {r : Nat} {fs : FS} (h : MapI w r fs) : r < w.heap.size := by
  obtain ⟨_, es, clock, h, _⟩ := h; exact (Array.getElem?_eq_some_iff.1 h).1
theorem MapI.no8 {w : World} {r : Nat} {fs : FS} (h : MapI w r fs) : ¬ Own8 w r := by
  obtain ⟨hB, es, clock, h, _⟩ := h
  rintro (h1 | ⟨cs, fr, h1⟩)
  · omega
  · rw [h] at h1; cases h1
theorem MapI.move {w w' : World} {r : Nat} {fs : FS} (h : MapI w r fs) (hb : w'.heap[r]? = w.heap[r]?) (hu : U8 w w') : MapI w' r fs := by
  obtain ⟨hB, es, clock, h, hf, hs⟩ := h; exact ⟨hB, es, clock, hb.trans h, hf.move hu, hs⟩
theorem MapI.setO {w : World} {r : Nat} {fs fs' : FS} (h : MapI w r fs) {es : Array MapEntry} {clock : Nat} (hf : FSR w es.toList fs') (hs : St es clock) : MapI (w.setO r (.map es clock)) r fs' ∧ U8 w (w.setO r (.map es clock)) := by
  have hu : U8 w (w.setO r (.map es clock)) := U8.but r h.no8 fun i hi hne => setO_ne hne
  exact ⟨⟨h.1, es, clock, setO_at h.lt, hf.move hu, hs⟩, hu⟩
theorem update_run {w : World} {r : Nat} {fs : FS} (h : MapI w r fs) (k : ByteArray) {v : Value} {xs : List Int} (hv : Rd w v xs) :
    ∃ w', (Instr.mapUpdate 74 (.map (some r)) (.string k) v).run Try.prog w = .ok () w' ∧ MapI w' r (fs.put k xs) ∧ Fr (· = r) w w' ∧ U8 w w' ∧ w'.heap.size = w.heap.size := by
  obtain ⟨hB, es, clock, hb, hf, hs⟩ := h
  obtain ⟨es', clock', hr, hf', hs'⟩ := run_update (P := Try.prog) Try.underlying74 Try.underlying9 hb hf k hv
  obtain ⟨h1, h2⟩ := MapI.setO (clock := clock') ⟨hB, es, clock, hb, hf, hs⟩ hf' (hs' hs)
  exact ⟨_, hr, h1, Fr.setO (S := (· = r)) rfl _, h2, by simp⟩

theorem setO_setO {w : World} {r : Nat} {a b : Obj} : (w.setO r a).setO r b = w.setO r b := by simp [World.setO]
theorem entry_run {w : World} {r : Nat} {fs : FS} (h : MapI w r fs) (k : ByteArray) {v : Value} {xs ys : List Int} (hv : Rd w v xs) (hg : fs.get k = some ys) :
    ∃ v0 st w1 w2, (Instr.mapEntry 74 (.map (some r)) (.string k)).run Try.prog w = .ok (.tuple #[v0, goInt st]) w1 ∧ (Instr.entryStore 74 (.map (some r)) (goInt st) v).run Try.prog w1 = .ok () w2 ∧
      MapI w2 r (fs.put k xs) ∧ Fr (· = r) w w1 ∧ Fr (· = r) w w2 ∧ U8 w w2 := by
  obtain ⟨hB, es, clock, hb, hf, hs⟩ := h
  obtain ⟨v0, st, es1, es2, h1, h2, h3, h4⟩ := run_entry (P := Try.prog) Try.underlying74 Try.underlying9 hb hf hs k hv hg
  obtain ⟨h5, h6⟩ := MapI.setO (clock := clock) ⟨hB, es, clock, hb, hf, hs⟩ h3 h4
  refine ⟨v0, st, _, _, h1, ?_, h5, Fr.setO (S := (· = r)) rfl _, Fr.setO (S := (· = r)) rfl _, h6⟩
  rw [h2 _ (setO_at (Array.getElem?_eq_some_iff.1 hb).1), setO_setO]

theorem create_calls {w : World} {r : Nat} {fs : FS} (h : MapI w r fs) (k to : ByteArray) {v : Value} {xs : List Int} (hv : Rd w v xs) :
    Calls Try.prog 59 #[.map (some r), .string k, .string to, v] w fun e w' => e = .returned (.tuple #[]) ∧ MapI w' r (fs.put k xs) ∧ Fr (· = r) w w' ∧ U8 w w' := by
  obtain ⟨w1, hrun, hm, hfr, hu, _⟩ := update_run h k hv
  have Hm := Lib.hid hm
  have Hfr := Lib.hid hfr
  have Hu := Lib.hid hu
  clear hm hfr hu h hv
  go_enter Try.func59, Try.ntmps59
  go_wp2
  go_end0
  exact ⟨rfl, Hm.out, Hfr.out, Hu.out⟩
end Go.Proofs.Ytalnhdeckdakfaa.Dev
