/-
  The device: lists of operations that are read, copied, done to a map ('settle').
-/
import Derived.Test.YtalnhdeckdakfaaDevE
import Derived.Deep.MidRow
namespace Go.Proofs.Ytalnhdeckdakfaa.Dev
open Go.RowKit Go.Proofs
set_option linter.unusedVariables false
set_option linter.unusedSectionVars false
set_option linter.unusedSimpArgs false
variable [Bs]

/-- a slice value that reads as these operations -/
def RdO (w : World) (v : Value) (os : List Op) : Prop :=
  ∃ a c cells, v = .slice a os.length c ∧ os.length ≤ c ∧ c ≤ maxLen ∧ OpsR w cells os ∧ ((a = none ∧ os = []) ∨ ∃ g, a = some ⟨g, 0, none⟩ ∧ w.rangeAt g 0 cells)
theorem RdO.nil (w : World) : RdO w (.slice none 0 0) [] := ⟨none, 0, [], rfl, Nat.le_refl _, by simp [maxLen], trivial, .inl ⟨rfl, rfl⟩⟩
theorem RdO.own {w : World} {base : Nat} {v : Value} {cells : List Value} {os : List Op} (h : w.ownsRow base 90 5 v os.length cells) (ho : OpsR w cells os) : RdO w v os := by
  rcases h.2 with ⟨rfl, h0⟩ | ⟨g, cap, cur, rfl, hb, hh, hnc, hcm, hcs, ht⟩
  · have : os = [] := List.length_eq_zero_iff.1 h0
    subst this
    exact RdO.nil w
  · refine ⟨_, cap, cells, rfl, hnc, hcm, ho, .inr ⟨g, rfl, fun j v hv => ?_⟩⟩
    rw [Nat.zero_add, ← add_plain]
    exact h.cells (g := g) rfl j v hv
theorem RdO.move {w w' : World} {v : Value} {os : List Op} (h : RdO w v os) (hu : U8 w w') (hb : ∀ i, v.ownBlock = some i → w'.heap[i]? = w.heap[i]?) : RdO w' v os := by
  obtain ⟨a, c, cells, rfl, h1, h2, ho, hr0⟩ := h
  refine ⟨a, c, cells, rfl, h1, h2, ho.move hu, hr0.imp id ?_⟩
  rintro ⟨g, rfl, hr⟩
  exact ⟨g, rfl, fun j v hv => (World.cell?_of_block (hb g rfl)).trans (hr j v hv)⟩
theorem OpsR.take {w : World} (k : Nat) : ∀ {cs : List Value} {os : List Op}, OpsR w cs os → OpsR w (cs.take (k * 5)) (os.take k) := by
  induction k with
  | zero => intro cs os _; simp [OpsR]
  | succ k ih =>
    intro cs os h
    match cs, os, h with
    | [], [], h => simp [OpsR]
    | f :: a :: b :: v :: c :: cs, o :: os, h =>
      have e : (k + 1) * 5 = k * 5 + 1 + 1 + 1 + 1 + 1 := by omega
      rw [e]
      exact ⟨h.1, ih h.2⟩
theorem RdO.take {w : World} {g n c : Nat} {os : List Op} (h : RdO w (.slice (some ⟨g, 0, none⟩) n c) os) (k : Nat) (hk : k ≤ n) : RdO w (.slice (some ⟨g, 0, none⟩) k c) (os.take k) := by
  obtain ⟨a, c', cells, he, h1, h2, ho, hr⟩ := h
  injection he with e1 e2 e3
  subst e1 e2 e3
  rcases hr with ⟨h, _⟩ | ⟨g', hg, hr⟩
  · cases h
  injection hg with hg; injection hg with hg; subst hg
  refine ⟨_, c, cells.take (k * 5), by rw [List.length_take, Nat.min_eq_left hk], by rw [List.length_take]; omega, h2, ho.take k, .inr ⟨_, rfl, fun j v hv => hr j v ?_⟩⟩
  rw [List.getElem?_take] at hv
  split at hv
  · exact hv
  · cases hv
def opCells (o : Op) (v : Value) : List Value := [fnOf o.kind, .string o.name, .string o.to, v, .bool o.writes]
theorem OpsR.at {w : World} : ∀ {cs : List Value} {os : List Op} (k : Nat), OpsR w cs os → ∀ hk : k < os.length, ∃ v, Rd w v os[k].b ∧ ∀ j, j < 5 → cs[k * 5 + j]? = (opCells os[k] v)[j]?
  | [], [], k, _, hk => by simp at hk
  | f :: a :: b :: v :: c :: cs, o :: os, 0, h, hk => by
    obtain ⟨⟨rfl, rfl, rfl, hv, rfl⟩, _⟩ := h
    refine ⟨v, hv, fun j hj => ?_⟩
    match j, hj with
    | 0, _ => rfl
    | 1, _ => rfl
    | 2, _ => rfl
    | 3, _ => rfl
    | 4, _ => rfl
  | f :: a :: b :: v :: c :: cs, o :: os, k + 1, h, hk => by
    obtain ⟨v', hv, hc⟩ := OpsR.at k h.2 (by simpa using hk)
    refine ⟨v', by simpa using hv, fun j hj => ?_⟩
    have e : (k + 1) * 5 + j = k * 5 + j + 1 + 1 + 1 + 1 + 1 := by omega
    rw [e]
    simpa using hc j hj
theorem op_cells {w : World} {g k : Nat} {cells : List Value} {os : List Op} (ho : OpsR w cells os) (hr : w.rangeAt g 0 cells) (hk : k < os.length) :
    ∃ v, Rd w v os[k].b ∧ w.cell? ⟨g, k * 5, none⟩ = some (fnOf os[k].kind) ∧ w.cell? ⟨g, k * 5 + 1, none⟩ = some (.string os[k].name) ∧ w.cell? ⟨g, k * 5 + 2, none⟩ = some (.string os[k].to) ∧
      w.cell? ⟨g, k * 5 + 3, none⟩ = some v ∧ w.cell? ⟨g, k * 5 + 4, none⟩ = some (.bool os[k].writes) := by
  obtain ⟨v, hv, hc⟩ := OpsR.at k ho hk
  have H : ∀ j u, j < 5 → (opCells os[k] v)[j]? = some u → w.cell? ⟨g, k * 5 + j, none⟩ = some u := fun j u hj hu => by
    have := hr (k * 5 + j) u ((hc j hj).trans hu)
    rwa [Nat.zero_add] at this
  exact ⟨v, hv, H 0 _ (by omega) rfl, H 1 _ (by omega) rfl, H 2 _ (by omega) rfl, H 3 _ (by omega) rfl, H 4 _ (by omega) rfl⟩

theorem apps_take (l : FS) (os : List Op) (k : Nat) (hk : k < os.length) : apps l (os.take (k + 1)) = app (apps l (os.take k)) os[k] := by
  rw [List.take_succ_eq_append_getElem hk, apps, List.foldl_append]
  rfl

/-- what an operation may do: known kinds, bytes that fit -/
def Op.ok (o : Op) : Prop := (o.kind = 1 ∨ o.kind = 2 ∨ o.kind = 3 ∨ False)
/-- every step of these operations fits -/
def Fits (l : FS) (os : List Op) : Prop := ∀ k (hk : k < os.length), os[k].ok ∧ (((apps l (os.take k)).get os[k].name).getD []).length + os[k].b.length ≤ 140737488355328

set_option maxHeartbeats 1000000 in
set_option maxRecDepth 100000 in
theorem settle_calls {w : World} {d rd rn : Nat} {pv v : Value} {down : Bool} {f : Int} {fs : FS} {os : List Op} (h : DevB w d (.map (some rd)) (.map (some rn)) pv f down) (hM : MapI w rd fs) (hB : Bs.n ≤ d)
    (hv : RdO w v os) (hvd : v.ownBlock ≠ some d) (hvr : v.ownBlock ≠ some rd) (hf : Fits fs os) :
    Calls Try.prog 44 #[.pointer (some ⟨d, 0, none⟩), v] w fun e w' => e = .returned (.tuple #[]) ∧
      ∃ rn', DevB w' d (.map (some rd)) (.map (some rn')) (.slice none 0 0) f down ∧ MapI w' rd (apps fs os) ∧ MapI w' rn' (apps fs os) ∧ Fr (fun i => i = d ∨ i = rd) w w' ∧ w.heap.size ≤ rn' := by
  have Hv := Lib.hid hv
  obtain ⟨A, c, cells, rfl, hc1, hc2, hO, hR⟩ := hv
  have hdr : rd ≠ d := map_ne_dev hM h
  have hdw := h.lt
  have HO := Lib.hid hO
  have HR := Lib.hid hR
  have HD := Lib.hid h
  have HM := Lib.hid hM
  have HB := Lib.hid hB
  have Hf := Lib.hid hf
  have Hvd := Lib.hid hvd
  have Hvr := Lib.hid hvr
  have Hdr := Lib.hid hdr
  clear hO hR h hM hB hf hvd hvr hdr
  have hlen : os.length ≤ 9223372036854775807 := by simp only [maxLen] at hc2; omega
  clear hc1 hc2
  go_enter Try.func44, Try.ntmps44
  go_wp2
  go_loopw [8] (fun i wr => ∃ k : Nat, k ≤ os.length ∧ i = .int .i64 k ∧ MapI wr rd (apps fs (os.take k)) ∧ Fr (· = rd) w wr) (fun i _ => os.length - (intOf i).toNat)
  case atStart => exact ⟨0, Nat.zero_le _, rfl, HM.out, Fr.refl _ _⟩
  case round =>
    obtain ⟨k, hk, rfl, hMk, hFk⟩ := hrel
    have HMk := Lib.hid hMk
    have HFk := Lib.hid hFk
    clear hMk hFk
    by_cases hlt : k < os.length
    · have huk : U8 w wr := HFk.out.u8 fun i hi => hi ▸ HM.out.no8
      obtain ⟨g, rfl, hrg⟩ : ∃ g, A = some ⟨g, 0, none⟩ ∧ w.rangeAt g 0 cells := by
        rcases HR.out with ⟨_, e⟩ | h
        · rw [e] at hlt; simp at hlt
        · exact h
      have hrg' : wr.rangeAt g 0 cells := fun j u hu => by
        refine (World.cell?_of_block (HFk.out.block g ?_ ?_)).trans (hrg j u hu)
        · exact World.block_lt_of_cell? w _ (hrg j u hu)
        · rintro rfl; exact Hvr.out rfl
      obtain ⟨v, hv, x0, x1, x2, x3, x4⟩ := op_cells (HO.out.move huk) hrg' hlt
      have Hv := Lib.hid hv
      have hfk := Hf.out k hlt
      have Hfk := Lib.hid hfk
      have Hap := Lib.hid (apps_take fs os k hlt)
      have hD : DevB wr d (.map (some rd)) (.map (some rn)) pv f down := (HFk.out.block d hdw (Ne.symm Hdr.out)).trans HD.out
      have c0 := hD.c0
      clear hrg hrg' hfk huk
      generalize os[k] = o at *
      obtain ⟨A3, c3, rfl, _⟩ := hv
      have x0' : wr.cell? ⟨g, k * 5, none⟩ = some (.func (.func (FN o.kind)) #[] #[]) := x0
      clear x0
      have hst := fun W => run_store Try.prog W ⟨wr.heap.size, 0, none⟩ (Value.func (.func (FN o.kind)) #[] #[]) .plain rfl
      go_wp2
      clear hst x0' x1 x2 x3 x4 c0
      have hblk := heap_alloc_new wr (Obj.cells #[Value.func (.func (FN o.kind)) #[] #[], .string o.name, .string o.to, .slice A3 o.b.length c3, .bool o.writes] 90)
      have hba : Below wr.heap.size wr (wr.alloc (Obj.cells #[Value.func (.func (FN o.kind)) #[] #[], .string o.name, .string o.to, .slice A3 o.b.length c3, .bool o.writes] 90)) := (Below.refl _ _).alloc (Nat.le_refl _) _
      generalize hwa : wr.alloc (Obj.cells #[Value.func (.func (FN o.kind)) #[] #[], .string o.name, .string o.to, .slice A3 o.b.length c3, .bool o.writes] 90) = wa at *
      have y0 : wa.cell? ⟨wr.heap.size, 0, none⟩ = some (.func (.func (FN o.kind)) #[] #[]) := (blk_cell hblk 0).trans rfl
      have y1 : wa.cell? ⟨wr.heap.size, 1, none⟩ = some (.string o.name) := (blk_cell hblk 1).trans rfl
      have y2 : wa.cell? ⟨wr.heap.size, 2, none⟩ = some (.string o.to) := (blk_cell hblk 2).trans rfl
      have y3 : wa.cell? ⟨wr.heap.size, 3, none⟩ = some (.slice A3 o.b.length c3) := (blk_cell hblk 3).trans rfl
      have c0 : wa.cell? ⟨d, 0, none⟩ = some (.map (some rd)) := cell_of_below hba hD.c0
      go_still_tail 12, (by kernel_rfl)
      change wpList _ _ _ _ _ wa.drew
      have hb2 : Below wr.heap.size wr wa.drew := hba.drew
      generalize wa.drew = w2 at *
      refine dyn_call rfl _ _ _ rfl o.kind Hfk.out.1 rfl #[.map (some rd), .string o.name, .string o.to, .slice A3 o.b.length c3] (by simp only [List.map_toArray, List.map_cons, List.map_nil]; rfl) ?_
      refine (do_calls (HMk.out.move (hb2.block _ HMk.out.lt) (U8.below hb2)) o Hfk.out.1 (U8.below hb2 _ _ Hv.out) Hfk.out.2).mono ?_
      rintro e w3 ⟨rfl, hM3, hF3, hu3⟩
      have HM3 := Lib.hid hM3
      have HF3 := Lib.hid ((HFk.out.trans (Fr.below hb2)).trans hF3)
      clear hM3 hF3 hu3 hb2 hba hwa y0 y1 y2 y3 c0 hblk
      go_wp2
      refine ⟨⟨k + 1, by omega, by go_num, by rw [Hap.out]; exact HM3.out, HF3.out⟩, by simp [intOf]; omega⟩
    · have hkk : os.take k = os := List.take_of_length_le (by omega)
      have hD : DevB wr d (.map (some rd)) (.map (some rn)) pv f down := (HFk.out.block d hdw (Ne.symm Hdr.out)).trans HD.out
      have c0 := hD.c0
      have c1 := hD.c1
      have c2 := hD.c2
      go_wp2_with fail
      refine (cloneM_calls HMk.out).mono ?_
      rintro e w1 ⟨rfl, hM1, hb1, hs1⟩
      have HM1 := Lib.hid hM1
      have Hb1 := Lib.hid hb1
      have hD1 : DevB w1 d (.map (some rd)) (.map (some rn)) pv f down := blk_below hD hb1
      have HD1 := Lib.hid hD1
      have c11 := hD1.c1
      have c12 := hD1.c2
      have f11 := hD1.fz 1
      have f12 := hD1.fz 2
      clear hM1 hb1 hD1 hD c0 c1 c2
      go_wp2
      go_end0
      have hFS : Fr (fun i => i = d) w1 ((w1.setCell ⟨d, 1, none⟩ (.map (some wr.heap.size))).setCell ⟨d, 2, none⟩ (.slice none 0 0)) := (Fr.setCell (S := fun i => i = d) rfl _).trans (Fr.setCell (S := fun i => i = d) rfl _)
      have huS := hFS.u8 fun i hi => hi ▸ HD1.out.no8 HB.out
      have huk : U8 wr w1 := U8.below Hb1.out
      have hlt1 := HMk.out.lt
      have hsz := HFk.out.size
      refine ⟨rfl, wr.heap.size, (HD1.out.set1 _).set2 _, ?_, ?_, ?_, hsz⟩
      · have h := (HMk.out.move (Hb1.out.block _ hlt1) huk).move (hFS.block _ (Nat.lt_of_lt_of_le hlt1 Hb1.out.size) Hdr.out) huS
        rwa [hkk] at h
      · have h := HM1.out.move (hFS.block _ HM1.out.lt (by omega)) huS
        rwa [hkk] at h
      · exact ((HFk.out.mono fun i _ h => .inr h).trans (Fr.below Hb1.out)).trans (hFS.mono fun i _ h => .inl h)
end Go.Proofs.Ytalnhdeckdakfaa.Dev
