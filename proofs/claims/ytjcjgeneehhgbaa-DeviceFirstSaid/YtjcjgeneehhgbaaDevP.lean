/-
  The device: Names.
-/
import Derived.Test.YtjcjgeneehhgbaaDevO
import Derived.Test.YtjcjgeneehhgbaaDevShelf
import Derived.Sort.OwnSorted
import Derived.Maps.RangeRun
import Derived.Laws.IdiomRangeMap
namespace Go.Proofs.Ytjcjgeneehhgbaa.Dev
open Go.RowKit Go.Proofs
open Go.Sort (Holds putRow grow)
open Go.MapKept Go.ChangeMaps
set_option linter.unusedVariables false
set_option linter.unusedSectionVars false
set_option linter.unusedSimpArgs false
variable [Bs]

def bl (k : ByteArray) : List UInt8 := k.data.toList
def lb (l : List UInt8) : ByteArray := ⟨l.toArray⟩
theorem lb_bl (k : ByteArray) : lb (bl k) = k := by cases k; rfl
theorem bl_lb (l : List UInt8) : bl (lb l) = l := rfl
/-- the names, sorted -/
def sortK (ks : List ByteArray) : List ByteArray := ((ks.map bl).mergeSort fun x y => decide (x ≤ y)).map lb
theorem sortK_len (ks : List ByteArray) : (sortK ks).length = ks.length := by simp [sortK]
/-- a slice of strings -/
def RdS (w : World) (v : Value) (ks : List ByteArray) : Prop :=
  ∃ a c, v = .slice a ks.length c ∧ ks.length ≤ c ∧ c ≤ 9223372036854775807 ∧ ∀ i, i < ks.length → ∃ ad, a = some ad ∧ w.cell? (ad.add i) = some (.string (ks.getD i ⟨#[]⟩))
theorem RdS.below {w w' : World} {v : Value} {ks : List ByteArray} (h : RdS w v ks) (hb : Below w.heap.size w w') : RdS w' v ks := by
  obtain ⟨a, c, rfl, h1, h2, h3⟩ := h
  refine ⟨a, c, rfl, h1, h2, fun i hi => ?_⟩
  obtain ⟨ad, rfl, h⟩ := h3 i hi
  exact ⟨ad, rfl, cell_of_below hb h⟩
theorem enc_bl (ks : List ByteArray) : ks.map Value.string = (ks.map bl).map encStr := by simp [encStr, bl]
theorem RdS.own {w : World} {base : Nat} {v : Value} {ss : List (List UInt8)} (h : w.ownsRow base 9 1 v ss.length (ss.map encStr)) : RdS w v (ss.map lb) := by
  rcases h.2 with ⟨rfl, hn⟩ | ⟨g, cap, cur, rfl, _, hh, h1, h2, h3, h4⟩
  · have : ss = [] := List.length_eq_zero_iff.1 hn
    subst this
    exact ⟨none, 0, rfl, Nat.le_refl _, by omega, fun i hi => absurd hi (by simp)⟩
  · refine ⟨some (⟨g, 0, none⟩ : Addr), cap, by rw [List.length_map], by rw [List.length_map]; exact h1, by simpa [maxLen] using h2, fun i hi => ⟨⟨g, 0, none⟩, rfl, ?_⟩⟩
    have hi' : i < ss.length := by simpa using hi
    rw [add_plain, blk_cell hh i, ← Array.getElem?_toList]
    have e : (cur.toList.take (ss.length * 1))[i]? = (ss.map encStr)[i]? := by rw [h4]
    rw [List.getElem?_take, if_pos (by omega)] at e
    rw [e]
    simp [List.getD_eq_getElem?_getD, hi', lb, encStr]

def keyS (e : MapEntry) : ByteArray := match e.key with | .string s => s | _ => ⟨#[]⟩
/-- what a range has handed out -/
def seenK (es : List MapEntry) (seen : Array Nat) : List ByteArray := (es.filter fun e => seen.contains e.born).map keyS
theorem seenK_none (es : List MapEntry) : seenK es #[] = [] := by simp [seenK]
theorem seenK_other (seen : Array Nat) (b : Nat) : ∀ (es : List MapEntry), b ∉ es.map (·.born) → seenK es (seen.push b) = seenK es seen := by
  intro es h
  unfold seenK
  congr 1
  refine List.filter_congr fun x hx => ?_
  rw [contains_push]
  have : (x.born == b) = false := by
    rw [beq_eq_false_iff_ne]
    rintro rfl
    exact h (List.mem_map_of_mem hx)
  rw [this, Bool.or_false]
theorem seenK_push (seen : Array Nat) (e : MapEntry) (hs : seen.contains e.born = false) : ∀ (es : List MapEntry), (es.map (·.born)).Nodup → e ∈ es → (seenK es (seen.push e.born)).Perm (seenK es seen ++ [keyS e])
  | [], _, he => by cases he
  | a :: es, hn, he => by
    simp only [List.map_cons, List.nodup_cons] at hn
    by_cases hae : a = e
    · subst hae
      have h1 := seenK_other seen a.born es hn.1
      have e1 : seenK (a :: es) (seen.push a.born) = keyS a :: seenK es (seen.push a.born) := by simp [seenK, contains_push]
      have e2 : seenK (a :: es) seen = seenK es seen := by simp only [seenK, List.filter_cons, hs, if_false, Bool.false_eq_true]
      rw [e1, e2, h1]
      exact List.perm_append_singleton _ _ |>.symm
    · have he' : e ∈ es := (List.mem_cons.1 he).resolve_left (Ne.symm hae)
      have hne : a.born ≠ e.born := fun h => hn.1 (h ▸ List.mem_map_of_mem he')
      have ih := seenK_push seen e hs es hn.2 he'
      have hb : (a.born == e.born) = false := beq_eq_false_iff_ne.2 hne
      cases hc : seen.contains a.born with
      | true =>
        have e1 : seenK (a :: es) (seen.push e.born) = keyS a :: seenK es (seen.push e.born) := by simp only [seenK, List.filter_cons, contains_push, hc, Bool.true_or, if_true, List.map_cons]
        have e2 : seenK (a :: es) seen = keyS a :: seenK es seen := by simp only [seenK, List.filter_cons, hc, if_true, List.map_cons]
        rw [e1, e2]
        exact ih.cons _
      | false =>
        have e1 : seenK (a :: es) (seen.push e.born) = seenK es (seen.push e.born) := by simp only [seenK, List.filter_cons, contains_push, hc, hb, Bool.or_false, if_false, Bool.false_eq_true]
        have e2 : seenK (a :: es) seen = seenK es seen := by simp only [seenK, List.filter_cons, hc, if_false, Bool.false_eq_true]
        rw [e1, e2]
        exact ih
theorem seenK_full (es : Array MapEntry) (seen : Array Nat) (h : (leftOf es seen).size = 0) : seenK es.toList seen = es.toList.map keyS := by
  unfold seenK
  congr 1
  exact List.filter_eq_self.2 fun x hx => all_seen es seen h x hx
theorem FSR.keys {w : World} : ∀ {es : List MapEntry} {fs : FS}, FSR w es fs → es.map keyS = fs.map (·.1)
  | [], [], _ => rfl
  | e :: es, p :: fs, h => by simp [FSR.keys h.2, keyS, h.1.1]
theorem FSR.key_at {w : World} : ∀ {es : List MapEntry} {fs : FS}, FSR w es fs → ∀ e ∈ es, e.key = .string (keyS e)
  | e :: es, p :: fs, h, x, hx => by
    rcases List.mem_cons.1 hx with rfl | hx
    · simp [keyS, h.1.1]
    · exact FSR.key_at h.2 x hx
theorem sortK_perm {a b : List ByteArray} (h : a.Perm b) : (a.map bl).mergeSort (fun x y => decide (x ≤ y)) = (b.map bl).mergeSort fun x y => decide (x ≤ y) := by
  have tr : ∀ x y z : List UInt8, decide (x ≤ y) = true → decide (y ≤ z) = true → decide (x ≤ z) = true := fun x y z h k => by
    simp only [decide_eq_true_eq] at *; exact List.le_trans h k
  have to : ∀ x y : List UInt8, (decide (x ≤ y) || decide (y ≤ x)) = true := fun x y => by
    rcases List.le_total x y with h | h <;> simp [h]
  refine List.Perm.eq_of_pairwise (le := fun x y : List UInt8 => decide (x ≤ y) = true) (fun x y _ _ h1 h2 => ?_) (List.pairwise_mergeSort tr to _) (List.pairwise_mergeSort tr to _) (((List.mergeSort_perm _ _).trans (h.map bl)).trans (List.mergeSort_perm _ _).symm)
  simp only [decide_eq_true_eq] at h1 h2
  exact List.le_antisymm h1 h2
theorem infoS : (Try.prog.info? 9).map (fun i => (i.zero, i.size, i.bytes)) = some (some (.string ⟨#[]⟩), 1, 16) := by kernel_rfl

theorem below_setBlock {n : Nat} {w w' : World} {r : Nat} (h : Below n w w') (hr : n ≤ r) (o : Obj) : Below n w (setBlock w' r o) := by
  refine ⟨h.os, h.tape, h.output, by simpa [setBlock] using h.size, fun i hi => ?_⟩
  rw [← h.block i hi]
  simp only [setBlock]
  rw [Array.getElem?_setIfInBounds_ne (by omega)]
theorem setBlock_at {w : World} {r : Nat} (hr : r < w.heap.size) (o : Obj) : (setBlock w r o).heap[r]? = some o := by simp [setBlock, hr]
theorem setBlock_ne {w : World} {r i : Nat} (h : i ≠ r) (o : Obj) : (setBlock w r o).heap[i]? = w.heap[i]? := by simp [setBlock, Array.getElem?_setIfInBounds, Ne.symm h]

set_option maxHeartbeats 4000000 in
set_option maxRecDepth 100000 in
theorem names_dev {w : World} {d : Nat} {st : DS} {S : Nat → Prop} (h : DevI w d st S) (hn : st.now.length ≤ 1000000) :
    Calls Try.prog 35 #[.pointer (some ⟨d, 0, none⟩)] w fun e w' => ∃ v, e = .returned v ∧ RdS w' v (sortK (st.now.map (·.1))) ∧ Below w.heap.size w w' := by
  obtain ⟨rd, rn, pv, cells, hW⟩ := h
  have c1 := hW.blk.c1
  obtain ⟨hB, es, clock, hb, hf, hs⟩ := hW.now
  have hlen : es.size = st.now.length := by have := hf.len; simpa using this
  have hrn : rn < w.heap.size := hW.now.lt
  have hrg := run_range_map (P := Try.prog) w 78 _ _ rn es clock Try.underlying78 hb
  have Hf := Lib.hid hf
  have Hkeys := Lib.hid hf.keys
  have Hs := Lib.hid hs
  have Hb := Lib.hid hb
  have Hlen := Lib.hid hlen
  obtain ⟨i0, hi, hzz⟩ := Option.map_eq_some_iff.1 infoS
  simp only [Prod.mk.injEq] at hzz
  obtain ⟨hz0, hz1, hz2⟩ := hzz
  have Hi := Lib.hid hi
  have Hz0 := Lib.hid hz0
  have Hz1 := Lib.hid hz1
  have Hz2 := Lib.hid hz2
  clear hW hf hs hb hlen hi hz0 hz1 hz2 hB
  go_enter Try.func35, Try.ntmps35
  go_wp2
  go_loopw [3] (fun v wr => ∃ (seen : Array Nat) (ks : List ByteArray), wr.heap[w.heap.size]? = some (.mapIter (some rn) clock seen clock) ∧ wr.heap[rn]? = some (.map es clock) ∧ wr.ownsRow w.heap.size 9 1 v ks.length (ks.map Value.string) ∧
      ks.Perm (seenK es.toList seen) ∧ ks.length + (leftOf es seen).size ≤ es.size ∧ Below w.heap.size w wr) (fun _ wr => (leftOf es (wr.iterSeen w.heap.size)).size)
  case atStart =>
    refine ⟨#[], [], heap_alloc_new w _, blk_below Hb.out ((Below.refl _ _).alloc (Nat.le_refl _) _), own_nil _ _ _ _, by rw [seenK_none], ?_, (Below.refl _ _).alloc (Nat.le_refl _) _⟩
    have h : (leftOf es #[]).size ≤ es.size := Array.size_filter_le
    simpa using h
  case round =>
    obtain ⟨seen, ks, hit, hmp, ho, hp, hle, hbl⟩ := hrel
    have law := run_next_at (P := Try.prog) wr 0 w.heap.size rn clock clock seen es clock hit hmp (fun x hx => Hs.out.1 x.born (List.mem_map_of_mem hx)) (Nat.le_refl _)
    have hseen : wr.iterSeen w.heap.size = seen := by simp only [World.iterSeen, hit]
    have Hseen := Lib.hid hseen
    have HO := Lib.hid ho
    have HP := Lib.hid hp
    have Hle := Lib.hid hle
    have Hbl := Lib.hid hbl
    have Hmp := Lib.hid hmp
    have Hit := Lib.hid hit
    obtain ⟨A2, c2, he2⟩ := own_form ho
    clear ho hp hle hbl hseen hmp hit
    subst he2
    rcases law with ⟨h0, hrun⟩ | ⟨e, he, w1, hal, hrun⟩
    · have hnx : ∀ ty, (Instr.next (.pointer (some ⟨w.heap.size, 0, none⟩)) false ty).run Try.prog wr = _ := fun _ => hrun
      have Hfull := Lib.hid (seenK_full es seen h0)
      clear hrun h0
      go_wp2_with fail
      have hpp : ks.Perm (st.now.map (·.1)) := by
        have := HP.out
        rwa [Hfull.out, Hkeys.out] at this
      have hll : ks.length ≤ 1000000 := by rw [hpp.length_eq, List.length_map]; exact hn
      rcases HO.out.2 with ⟨hnil, hk0⟩ | ⟨g, cap, cur, hv, hbase, hbb, h1, h2, h3, h4⟩
      · injection hnil with e1 e2 e3
        have hks : ks = [] := List.length_eq_zero_iff.1 hk0
        subst hks e1 e3
        have hst : st.now.map (·.1) = [] := List.length_eq_zero_iff.1 (by rw [← hpp.length_eq]; rfl)
        have Hst := Lib.hid hst
        clear hpp hk0 e2 hst
        refine (Try.slices_Sort_string_none none 0 wr).mono ?_
        rintro e _ ⟨rfl, rfl⟩
        go_wp2
        go_ret
        rw [Hst.out]
        exact ⟨_, rfl, ⟨none, 0, by simp [sortK], by simp [sortK], by omega, fun i hi => absurd hi (by simp [sortK])⟩, Hbl.out⟩
      · injection hv with e1 e2 e3
        subst e1 e3
        have e4 : cur.toList.take (ks.map bl).length = (ks.map bl).map encStr := by rw [List.length_map, ← enc_bl]; simpa using h4
        have hH : Holds encStr wr g 0 (ks.map bl).toArray := holds_of_block hbb e4
        have hgl : g < wr.heap.size := (Array.getElem?_eq_some_iff.1 hbb).1
        have hc := Try.slices_Sort_string g 0 c2 (ks.map bl) wr hH hgl (by simp; omega)
        rw [List.length_map] at hc
        have hsp := sortK_perm hpp
        have hrow : ∀ n os, (grow (putRow encStr (Sort.ahead wr n) g 0 ((ks.map bl).mergeSort fun x y => decide (x ≤ y)).toArray) os).ownsRow w.heap.size 9 1 (.slice (some ⟨g, 0, none⟩) (ks.map bl).length c2) (ks.map bl).length (((ks.map bl).mergeSort fun x y => decide (x ≤ y)).map encStr) := fun n os =>
          ownsRow_sorted (by simp) hbase hbb (by simpa using h1) h2 h3
        have Hrow := Lib.hid hrow
        have Hsp := Lib.hid hsp
        have Hbase := Lib.hid hbase
        clear hH hpp e4 hbb h1 h2 h3 h4 hsp hrow hbase
        refine hc.mono ?_
        clear hc
        rintro e w' ⟨rfl, n, os, rfl⟩
        have hr := Hrow.out n os
        have hb' := Hbl.out.grown (grownBy_sorted (w := wr) (g := g) (n := n) (os := os) ((ks.map bl).mergeSort fun x y => decide (x ≤ y)).toArray) Hbl.out.size (fun j hj => by cases hj; exact Hbase.out)
        generalize grow (putRow encStr (Sort.ahead wr n) g 0 ((ks.map bl).mergeSort fun x y => decide (x ≤ y)).toArray) os = w3 at *
        have hr2 : RdS w3 (.slice (some ⟨g, 0, none⟩) ks.length c2) (sortK (st.now.map (·.1))) := by
          unfold sortK
          rw [← Hsp.out]
          refine RdS.own (base := w.heap.size) ?_
          simpa using hr
        have HR := Lib.hid hr2
        have HB' := Lib.hid hb'
        clear hr hb' hr2
        go_wp2
        go_ret
        exact ⟨_, rfl, HR.out, HB'.out⟩
    · have hnx : ∀ ty, (Instr.next (.pointer (some ⟨w.heap.size, 0, none⟩)) false ty).run Try.prog wr = _ := fun _ => hrun
      obtain ⟨hem, hes⟩ := mem_left he
      have hkey := Hf.out.key_at e hem
      have hb1 : Below w.heap.size w (setBlock w1 w.heap.size (.mapIter (some rn) clock (seen.push e.born) clock)) := below_setBlock (by rcases hal with rfl | rfl; exact Hbl.out; exact Hbl.out.drew) (Nat.le_refl _) _
      have hhe : w1.heap = wr.heap := by rcases hal with rfl | rfl <;> rfl
      have hlt : w.heap.size < wr.heap.size := (Array.getElem?_eq_some_iff.1 Hit.out).1
      have hit2 := setBlock_at (w := w1) (r := w.heap.size) (by rw [hhe]; exact hlt) (.mapIter (some rn) clock (seen.push e.born) clock)
      have hmp2 : (setBlock w1 w.heap.size (.mapIter (some rn) clock (seen.push e.born) clock)).heap[rn]? = some (.map es clock) := by rw [setBlock_ne (by omega), hhe]; exact Hmp.out
      have hne : ∀ i, (Value.slice A2 ks.length c2).ownBlock = some i → i ≠ w.heap.size := fun i hi => by
        rintro rfl
        rcases HO.out.2 with ⟨hnil, _⟩ | ⟨g, cap, cur, hv, _, hbb, _⟩
        · rw [hnil] at hi; cases hi
        · rw [hv] at hi
          have : g = w.heap.size := by simpa [Value.ownBlock] using hi
          subst this
          rw [Hit.out] at hbb
          cases hbb
      have ho2 : (setBlock w1 w.heap.size (.mapIter (some rn) clock (seen.push e.born) clock)).ownsRow w.heap.size 9 1 (.slice A2 ks.length c2) ks.length (ks.map Value.string) := own_block HO.out fun i hi => by rw [setBlock_ne (hne i hi), hhe]
      have hen := run_entry_at (P := Try.prog) _ w.heap.size rn clock seen es clock e hit2 hmp2 hem Hs.out.2
      rw [hkey] at hen hnx
      generalize hw2 : setBlock w1 w.heap.size (.mapIter (some rn) clock (seen.push e.born) clock) = w2 at *
      have Hp2 := Lib.hid (HP.out.append_right [keyS e] |>.trans (seenK_push seen e hes es.toList Hs.out.2 hem).symm)
      have Hsh := Lib.hid (left_shrinks es seen e he)
      have HO2 := Lib.hid ho2
      have Hb2 := Lib.hid hb1
      have Hit2 := Lib.hid hit2
      have Hmp2 := Lib.hid hmp2
      have Hne := Lib.hid hne
      generalize keyS e = k at *
      have hs2 : w.heap.size < w2.heap.size := (Array.getElem?_eq_some_iff.1 hit2).1
      have hkl : ks.length ≤ es.size := by have := Hle.out; omega
      have hes1 : es.size ≤ 1000000 := by rw [Hlen.out]; exact hn
      have HL1 := Lib.hid hs2
      clear hw2 hrun hal hhe hlt hit2 hmp2 hne ho2 hb1 hem hes hkey he HO HP Hbl Hmp Hit hs2
      generalize e.born = eb at *
      generalize e.val = ev at *
      go_wp2_with (at_builtin; refine wpList_append_own _ rfl _ _ 59 rfl w.heap.size 9 i0 (.string ⟨#[]⟩) 1 16 Try.underlying59 Hi.out Hz0.out Hz1.out Hz2.out rfl (by decide) _ _ _ rfl (HO2.out.alloc _) ⟨w2.heap.size, 0, none⟩ 1 1 [.string k] rfl rfl (cell_one_new _ _ _) (by simp [Value.oneCell']) (by unfold maxLen; omega) (by omega) (by have := HL1.out; simp; omega) ?_; intro v' w3 ho3 hg3 hnil3; have HO3 := Lib.hid ho3; have HG3 := Lib.hid hg3; clear ho3 hg3 hnil3)
      have hit3 : w3.heap[w.heap.size]? = some (.mapIter (some rn) clock (seen.push eb) clock) := by
        rw [HG3.out.block _ (by have := HL1.out; simp; omega) (fun h => Hne.out _ h.symm rfl), heap_alloc_old w2 _ HL1.out]
        exact Hit2.out
      have hmp3 : w3.heap[rn]? = some (.map es clock) := by
        rw [HG3.out.block _ (by have := HL1.out; simp; omega) (fun h => by have := (HO2.out.lt _ h.symm).1; omega), heap_alloc_old w2 _ (by have := HL1.out; omega)]
        exact Hmp2.out
      have hit3s : w3.iterSeen w.heap.size = seen.push eb := by simp only [World.iterSeen, hit3]
      refine ⟨⟨seen.push eb, ks ++ [k], hit3, hmp3, by simpa using HO3.out, Hp2.out, ?_, ?_⟩, ?_⟩
      · have h1 := Hle.out
        have h2 := Hsh.out
        simp only [List.length_append, List.length_singleton]
        omega
      · exact (Hb2.out.alloc (by have := HL1.out; omega) _).grown HG3.out (by have := HL1.out; simp; omega) (fun j hj => (HO2.out.lt j hj).1)
      · rw [hit3s, Hseen.out]
        exact Hsh.out
end Go.Proofs.Ytjcjgeneehhgbaa.Dev
