/-
  Words for worlds: bytes that are read, maps of named bytes, what stays as it was.
-/
import Derived.WalkKit
import Derived.KernelRfl
import Derived.Test.YtalnhdeckdakfaaDevPlain
namespace Go.Proofs.Ytalnhdeckdakfaa.Dev
open Go.RowKit
set_option linter.unusedVariables false
set_option linter.unusedSectionVars false
set_option linter.unusedSimpArgs false

/-- Below this block number lies what was there when the law began. -/
class Bs where
  n : Nat
variable [Bs]
/-- A block of bytes of the program's own making, or an elder block. -/
def Own8 (w : World) (i : Nat) : Prop := i < Bs.n ∨ ∃ cs fr, w.heap[i]? = some (.cells cs 5 fr)
/-- A slice value that reads as these bytes. -/
def Rd (w : World) (v : Value) (xs : List Int) : Prop :=
  ∃ a c, v = .slice a xs.length c ∧ xs.length ≤ c ∧ c ≤ 9223372036854775807 ∧ ∀ i, i < xs.length → ∃ ad, a = some ad ∧ w.cell? (ad.add i) = some (.int .u8 (xs.getD i 0)) ∧ Own8 w ad.block
/-- Whatever read as bytes reads so still. -/
def U8 (w w' : World) : Prop := ∀ v xs, Rd w v xs → Rd w' v xs
theorem U8.refl (w : World) : U8 w w := fun _ _ h => h
theorem U8.trans {a b c : World} (h : U8 a b) (k : U8 b c) : U8 a c := fun v xs hv => k v xs (h v xs hv)
theorem add_block (a : Addr) (i : Nat) : (a.add i).block = a.block := by unfold Addr.add; split <;> rfl
/-- It is enough that the blocks of bytes and the elder blocks stay. -/
theorem U8.of {w w' : World} (h : ∀ i, i < w.heap.size → Own8 w i → w'.heap[i]? = w.heap[i]?) : U8 w w' := by
  rintro v xs ⟨a, c, rfl, h1, h2, hc⟩
  refine ⟨a, c, rfl, h1, h2, fun i hi => ?_⟩
  obtain ⟨ad, rfl, hcell, ho⟩ := hc i hi
  have hlt : ad.block < w.heap.size := by have := World.block_lt_of_cell? w _ hcell; rwa [add_block] at this
  have hb := h _ hlt ho
  refine ⟨ad, rfl, ?_, ho.imp id fun ⟨cs, fr, e⟩ => ⟨cs, fr, hb.trans e⟩⟩
  have hsp : (ad.add i).spot = none := by
    cases hs : (ad.add i).spot with
    | none => rfl
    | some q =>
      unfold World.cell? at hcell
      split at hcell
      · simp [hs] at hcell
      · cases hcell
  have he : ad.add i = ⟨ad.block, (ad.add i).off, none⟩ := by rw [← hsp, ← add_block ad i]
  rw [he] at hcell ⊢
  rw [← hcell]
  exact World.cell?_of_block hb
theorem U8.below {w w' : World} (h : Below w.heap.size w w') : U8 w w' := U8.of fun i hi _ => h.block i hi
/-- A block that is neither has turned, and nothing else. -/
theorem U8.but {w w' : World} (g : Nat) (hg : ¬ Own8 w g) (h : ∀ i, i < w.heap.size → i ≠ g → w'.heap[i]? = w.heap[i]?) : U8 w w' :=
  U8.of fun i hi ho => h i hi fun e => hg (e ▸ ho)

/-! Maps of named bytes -/
def EntR (w : World) (e : MapEntry) (p : ByteArray × List Int) : Prop := e.key = .string p.1 ∧ Rd w e.val p.2
def FSR (w : World) : List MapEntry → FS → Prop
  | [], [] => True
  | e :: es, p :: fs => EntR w e p ∧ FSR w es fs
  | _, _ => False
theorem FSR.len {w : World} : ∀ {es : List MapEntry} {fs : FS}, FSR w es fs → es.length = fs.length
  | [], [], _ => rfl
  | _ :: _, _ :: _, h => by simp [FSR.len h.2]
theorem FSR.move {w w' : World} (hu : U8 w w') : ∀ {es : List MapEntry} {fs : FS}, FSR w es fs → FSR w' es fs
  | [], [], h => h
  | _ :: _, _ :: _, h => ⟨⟨h.1.1, hu _ _ h.1.2⟩, FSR.move hu h.2⟩

/-- A block's object is another one. -/
def _root_.Go.World.setO (w : World) (r : Nat) (o : Obj) : World := { w with heap := w.heap.setIfInBounds r o }
theorem setO_at {w : World} {r : Nat} {o : Obj} (h : r < w.heap.size) : (w.setO r o).heap[r]? = some o := by simp [World.setO, h]
theorem setO_ne {w : World} {r i : Nat} {o : Obj} (h : i ≠ r) : (w.setO r o).heap[i]? = w.heap[i]? := by simp [World.setO, Array.getElem?_setIfInBounds, Ne.symm h]
@[simp] theorem setO_size {w : World} {r : Nat} {o : Obj} : (w.setO r o).heap.size = w.heap.size := by simp [World.setO]

theorem ba_beq (a b : ByteArray) : (a == b) = decide (a = b) := by
  show (a.data == b.data) = _
  rw [Bool.eq_iff_iff, decide_eq_true_iff, beq_iff_eq]
  exact ⟨fun h => by cases a; cases b; simp only at h; rw [h], fun h => by rw [h]⟩
theorem ba_toList (a b : ByteArray) : (a.toList == b.toList) = decide (a = b) := by
  rw [Bool.eq_iff_iff, decide_eq_true_iff, beq_iff_eq]
  constructor
  · intro h
    rw [ByteArray.toList_eq, ByteArray.toList_eq] at h
    cases a; cases b
    simp only at h
    rw [Array.toList_inj.1 h]
  · rintro rfl; rfl

theorem findNow_str {w : World} (k : ByteArray) : ∀ {es : List MapEntry} {fs : FS} (i : Nat), FSR w es fs →
    ∃ r, Instr.findNow .string (.string k) es i = some r ∧ (r = none ∧ fs.get k = none ∨ ∃ j v xs, r = some (i + j, v) ∧ fs.get k = some xs ∧ Rd w v xs ∧ j < es.length ∧ es[j]?.map (·.val) = some v ∧ es[j]?.map (·.key) = some (.string k))
  | [], [], i, _ => ⟨none, rfl, .inl ⟨rfl, rfl⟩⟩
  | e :: es, p :: fs, i, h => by
    obtain ⟨⟨hk, hv⟩, hr⟩ := h
    simp only [Instr.findNow, hk, Instr.sameNow]
    by_cases hkp : k = p.1
    · subst hkp
      have hb : (p.1 == p.1) = true := by rw [ba_beq]; simp
      simp only [hb]
      exact ⟨_, rfl, .inr ⟨0, e.val, p.2, rfl, by simp [FS.get], hv, by simp, by simp, by simp [hk]⟩⟩
    · have hb : (k == p.1) = false := by rw [ba_beq]; simpa using hkp
      simp only [hb]
      obtain ⟨r, h1, h2⟩ := findNow_str k (i + 1) hr
      refine ⟨r, h1, ?_⟩
      have hg : FS.get (p :: fs) k = FS.get fs k := by simp [FS.get, Ne.symm hkp]
      rw [hg]
      rcases h2 with h2 | ⟨j, v, xs, h2, h3, h4, h5, h6, h7⟩
      · exact .inl h2
      · exact .inr ⟨j + 1, v, xs, by rw [h2]; congr 2; omega, h3, h4, by simp; omega, by simpa using h6, by simpa using h7⟩

/-! The four operations on maps of named bytes, run. -/
section
variable {P : Program} {w : World} {t kt et r clock : Nat} {es : Array MapEntry} {fs : FS}
theorem run_getMap (hb : w.heap[r]? = some (.map es clock)) : (getObj r).run P w = .ok (.map es clock) w := by
  simp [getObj, Sem.run, hb]
theorem run_setMap {o : Obj} (hb : w.heap[r]? = some (.map es clock)) : (setObj r o).run P w = .ok () (w.setO r o) := by
  simp [setObj, Sem.run, hb, World.setO]
theorem run_checkKey_str_n (hk : P.underlying kt = some .string) (em : Bool) (k : ByteArray) (n : Nat) : (Instr.checkKey em (n + 1) kt (.string k)).run P w = .ok () w := by
  simp only [Instr.checkKey, Sem.run_bind, run_underlying hk, Result.andThen_ok]
  rfl
theorem run_checkKey_str (hk : P.underlying kt = some .string) (em : Bool) (k : ByteArray) : (Instr.checkKey em 10000 kt (.string k)).run P w = .ok () w :=
  run_checkKey_str_n hk em k 9999
theorem run_findKey_str (hk : P.underlying kt = some .string) {k : ByteArray} {l : List MapEntry} {q : Option (Nat × Value)} (h : Instr.findNow .string (.string k) l 0 = some q) :
    (Instr.findKey kt (.string k) l).run P w = .ok q w := by
  simp only [Instr.findKey, Sem.run_bind, run_underlying hk, Result.andThen_ok, h]
  rfl
theorem run_lookup_yes (ht : P.underlying t = some (.map kt et)) (hk : P.underlying kt = some .string) (hf : FSR w es.toList fs)
    {k : ByteArray} {xs : List Int} (hg : fs.get k = some xs) : ∃ v, Rd w v xs ∧ ∀ W : World, W.heap[r]? = some (.map es clock) →
      (Instr.lookup t (.map (some r)) (.string k) true).run P W = .ok (.tuple #[v, .bool true]) W ∧ (Instr.lookup t (.map (some r)) (.string k) false).run P W = .ok v W := by
  obtain ⟨q, h1, h2⟩ := findNow_str k 0 hf
  rcases h2 with ⟨_, h3⟩ | ⟨j, v, ys, rfl, h3, h4, _⟩
  · rw [hg] at h3; cases h3
  · rw [hg] at h3; cases h3
    refine ⟨v, h4, fun W hb => ⟨?_, ?_⟩⟩ <;>
      simp [Instr.lookup, run_underlying ht, run_getMap hb, run_checkKey_str hk, run_findKey_str hk h1, Result.andThen]
theorem run_lookup_no (ht : P.underlying t = some (.map kt et)) (hk : P.underlying kt = some .string) {i : TypeInfo} (hi : P.info? et = some i) (hz : i.zero = some (.slice none 0 0)) (hf : FSR w es.toList fs)
    {k : ByteArray} (hg : fs.get k = none) : ∀ W : World, W.heap[r]? = some (.map es clock) →
      (Instr.lookup t (.map (some r)) (.string k) true).run P W = .ok (.tuple #[.slice none 0 0, .bool false]) W ∧ (Instr.lookup t (.map (some r)) (.string k) false).run P W = .ok (.slice none 0 0) W := by
  obtain ⟨q, h1, h2⟩ := findNow_str k 0 hf
  intro W hb
  have hzv : (zeroValue et).run P W = .ok (.slice none 0 0) W := by simp [zeroValue, typeInfo, hi, hz]
  rcases h2 with ⟨rfl, h3⟩ | ⟨j, v, ys, rfl, h3, h4, _⟩
  · refine ⟨?_, ?_⟩ <;>
      simp [Instr.lookup, run_underlying ht, run_getMap hb, run_checkKey_str hk, run_findKey_str hk h1, Result.andThen, hzv]
  · rw [hg] at h3; cases h3
end
section
variable {P : Program} {w : World} {t kt et r clock : Nat} {es : Array MapEntry} {fs : FS}
/-- Where a key stands, the first time. -/
theorem put_at {k : ByteArray} {xs : List Int} {v : Value} (hv : Rd w v xs) (b : MapEntry → Nat) : ∀ {l : List MapEntry} {fs : FS} (i : Nat), FSR w l fs →
    (Instr.findNow .string (.string k) l i = some none → FSR w (l ++ [⟨.string k, v, clock⟩]) (fs.put k xs)) ∧
    (∀ j u, Instr.findNow .string (.string k) l i = some (some (i + j, u)) → FSR w (l.modify j fun e => ⟨.string k, v, b e⟩) (fs.put k xs))
  | [], [], i, _ => ⟨fun _ => ⟨⟨rfl, hv⟩, trivial⟩, fun j u h => by simp [Instr.findNow] at h⟩
  | e :: l, p :: fs, i, h => by
    obtain ⟨⟨hk, hr⟩, h'⟩ := h
    simp only [Instr.findNow, hk, Instr.sameNow]
    by_cases hkp : k = p.1
    · subst hkp
      have hb : (p.1 == p.1) = true := by rw [ba_beq]; simp
      simp only [hb]
      refine ⟨fun h => by simp at h, fun j u h => ?_⟩
      obtain ⟨rfl, _⟩ : j = 0 ∧ _ := by simpa using h
      simp only [List.modify_zero_cons, FS.put, if_true]
      exact ⟨⟨rfl, hv⟩, h'⟩
    · have hb : (k == p.1) = false := by rw [ba_beq]; simpa using hkp
      simp only [hb]
      obtain ⟨h1, h2⟩ := put_at hv b (i + 1) h'
      simp only [FS.put, Ne.symm hkp, if_false]
      refine ⟨fun h => ⟨⟨hk, hr⟩, h1 h⟩, fun j u h => ?_⟩
      cases j with
      | zero =>
        exfalso
        obtain ⟨q, hq, hq2⟩ := findNow_str (w := w) k (i + 1) h'
        rw [hq] at h
        rcases hq2 with ⟨rfl, _⟩ | ⟨j, v', ys, rfl, _⟩
        · simp at h
        · simp at h; omega
      | succ j =>
        simp only [List.modify_succ_cons]
        exact ⟨⟨hk, hr⟩, h2 j u (by rw [h]; congr 3; omega)⟩
theorem del_at {k : ByteArray} : ∀ {l : List MapEntry} {fs : FS} (i : Nat), FSR w l fs →
    (Instr.findNow .string (.string k) l i = some none → fs.del k = fs) ∧
    (∀ j u, Instr.findNow .string (.string k) l i = some (some (i + j, u)) → FSR w (l.eraseIdx j) (fs.del k))
  | [], [], i, _ => ⟨fun _ => rfl, fun j u h => by simp [Instr.findNow] at h⟩
  | e :: l, p :: fs, i, h => by
    obtain ⟨⟨hk, hr⟩, h'⟩ := h
    simp only [Instr.findNow, hk, Instr.sameNow]
    by_cases hkp : k = p.1
    · subst hkp
      have hb : (p.1 == p.1) = true := by rw [ba_beq]; simp
      simp only [hb]
      refine ⟨fun h => by simp at h, fun j u h => ?_⟩
      obtain ⟨rfl, _⟩ : j = 0 ∧ _ := by simpa using h
      simp only [List.eraseIdx_zero, List.tail_cons, FS.del, if_true]
      exact h'
    · have hb : (k == p.1) = false := by rw [ba_beq]; simpa using hkp
      simp only [hb]
      obtain ⟨h1, h2⟩ := del_at (k := k) (i + 1) h'
      simp only [FS.del, Ne.symm hkp, if_false]
      refine ⟨fun h => by rw [h1 h], fun j u h => ?_⟩
      cases j with
      | zero =>
        exfalso
        obtain ⟨q, hq, hq2⟩ := findNow_str (w := w) k (i + 1) h'
        rw [hq] at h
        rcases hq2 with ⟨rfl, _⟩ | ⟨j, v', ys, rfl, _⟩
        · simp at h
        · simp at h; omega
      | succ j =>
        simp only [List.eraseIdx_cons_succ]
        exact ⟨⟨hk, hr⟩, h2 j u (by rw [h]; congr 3; omega)⟩
theorem sameBits_str (k : ByteArray) : Instr.sameBits 10000 (.string k) (.string k) = true := by
  show (k == k) = true
  rw [ba_beq]; simp
theorem run_keyStays (k : ByteArray) : (Instr.keyThatStays (.string k) (.string k)).run P w = .ok (.string k) w := by
  simp only [Instr.keyThatStays, sameBits_str, if_true]
  rfl
/-- the stamps of a map's entries: each its own, all elder than the clock -/
def St (es : Array MapEntry) (clock : Nat) : Prop := (∀ b ∈ es.toList.map (·.born), b < clock) ∧ (es.toList.map (·.born)).Nodup
theorem St.nil : St #[] 0 := ⟨by simp, by simp⟩
theorem map_modify_born (f : MapEntry → MapEntry) (hf : ∀ e, (f e).born = e.born) : ∀ (l : List MapEntry) (j : Nat), (l.modify j f).map (·.born) = l.map (·.born)
  | [], _ => by simp
  | a :: l, 0 => by simp [hf]
  | a :: l, j + 1 => by simp [map_modify_born f hf l j]
theorem St.modify {es : Array MapEntry} {clock : Nat} (h : St es clock) (j : Nat) (f : MapEntry → MapEntry) (hf : ∀ e, (f e).born = e.born) : St (es.modify j f) clock := by
  unfold St at *
  rw [Array.toList_modify, map_modify_born f hf]
  exact h
theorem St.push {es : Array MapEntry} {clock : Nat} (h : St es clock) (k v : Value) : St (es.push ⟨k, v, clock⟩) (clock + 1) := by
  unfold St at *
  simp only [Array.toList_push, List.map_append, List.map_cons, List.map_nil]
  refine ⟨fun b hb => ?_, List.nodup_append.2 ⟨h.2, by simp, fun a ha c hc e => ?_⟩⟩
  · rcases List.mem_append.1 hb with hb | hb
    · have := h.1 b hb; omega
    · simp only [List.mem_singleton] at hb; omega
  · simp only [List.mem_singleton] at hc
    have := h.1 a ha
    omega
theorem St.erase {es : Array MapEntry} {clock : Nat} (h : St es clock) (j : Nat) (hj : j < es.size) : St (es.eraseIdxIfInBounds j) clock := by
  unfold St at *
  have e : (es.eraseIdxIfInBounds j).toList = es.toList.eraseIdx j := by simp [Array.eraseIdxIfInBounds, hj]
  rw [e]
  have hs : List.Sublist ((es.toList.eraseIdx j).map (·.born)) (es.toList.map (·.born)) := (List.eraseIdx_sublist _ _).map _
  exact ⟨fun b hb => h.1 b (hs.subset hb), h.2.sublist hs⟩
theorem run_update (ht : P.underlying t = some (.map kt et)) (hk : P.underlying kt = some .string) (hb : w.heap[r]? = some (.map es clock)) (hf : FSR w es.toList fs)
    (k : ByteArray) {v : Value} {xs : List Int} (hv : Rd w v xs) :
    ∃ es' clock', (Instr.mapUpdate t (.map (some r)) (.string k) v).run P w = .ok () (w.setO r (.map es' clock')) ∧ FSR w es'.toList (fs.put k xs) ∧ (St es clock → St es' clock') := by
  obtain ⟨q, h1, h2⟩ := findNow_str k 0 hf
  have hp := put_at (clock := clock) (k := k) hv (fun e => e.born) 0 hf
  rcases h2 with ⟨rfl, h3⟩ | ⟨j, u, ys, rfl, h3, h4, h5, h6, h7⟩
  · refine ⟨es.push ⟨.string k, v, clock⟩, clock + 1, ?_, by simpa using hp.1 h1, fun h => h.push _ _⟩
    simp [Instr.mapUpdate, run_underlying ht, run_getMap hb, run_checkKey_str hk, run_findKey_str hk h1, run_setMap hb, Result.andThen]
  · refine ⟨es.modify j fun e => ⟨.string k, v, e.born⟩, clock, ?_, by rw [Array.toList_modify]; exact hp.2 j u (by simpa using h1), fun h => h.modify j _ fun _ => rfl⟩
    have hkey : ((es[j]?).map (·.key)).getD (.string k) = .string k := by
      rw [← Array.getElem?_toList, h7]; rfl
    simp only [Nat.zero_add] at h1
    simp [Instr.mapUpdate, run_underlying ht, run_getMap hb, run_checkKey_str hk, run_findKey_str hk h1, run_setMap hb, Result.andThen, hkey, run_keyStays]
theorem run_delete (ht : P.underlying t = some (.map kt et)) (hk : P.underlying kt = some .string) (hb : w.heap[r]? = some (.map es clock)) (hf : FSR w es.toList fs)
    (k : ByteArray) (ty : TypeId) (tk : TypeId) :
    ∃ es' clock', (Builtin.delete_ #[t, tk] ty #[.map (some r), .string k]).run P w = .ok (.tuple #[]) (w.setO r (.map es' clock')) ∧ FSR w es'.toList (fs.del k) ∧ (St es clock → St es' clock') := by
  obtain ⟨q, h1, h2⟩ := findNow_str k 0 hf
  have hp := del_at (k := k) 0 hf
  rcases h2 with ⟨rfl, h3⟩ | ⟨j, u, ys, rfl, h3, h4, h5, h6, h7⟩
  · refine ⟨es, clock, ?_, by rw [hp.1 h1]; exact hf, id⟩
    simp [Builtin.delete_, run_underlying ht, run_getMap hb, run_checkKey_str hk, run_findKey_str hk h1, run_setMap hb, Result.andThen]
  · have hj := hp.2 j u (by simpa using h1)
    refine ⟨es.eraseIdxIfInBounds j, clock, ?_, ?_, fun h => h.erase j (by simpa using h5)⟩
    · simp only [Nat.zero_add] at h1
      simp [Builtin.delete_, run_underlying ht, run_getMap hb, run_checkKey_str hk, run_findKey_str hk h1, run_setMap hb, Result.andThen]
    · have hlt : j < es.size := by simpa using h5
      have : (es.eraseIdxIfInBounds j).toList = es.toList.eraseIdx j := by
        simp [Array.eraseIdxIfInBounds, hlt]
      rw [this]; exact hj
theorem findIdx_arr (xs : Array MapEntry) (p : MapEntry → Bool) : xs.findIdx? p = xs.toList.findIdx? p := by
  cases xs
  simp
theorem findIdx_born {l : List MapEntry} (hn : (l.map (·.born)).Nodup) {j : Nat} {e0 : MapEntry} (h : l[j]? = some e0) : l.findIdx? (fun e => ((e.born : Nat) : Int) == ((e0.born : Nat) : Int)) = some j := by
  induction l generalizing j with
  | nil => simp at h
  | cons a r ih =>
    simp only [List.map_cons, List.nodup_cons] at hn
    cases j with
    | zero =>
      simp only [List.getElem?_cons_zero, Option.some.injEq] at h
      subst h
      simp [List.findIdx?_cons]
    | succ j =>
      simp only [List.getElem?_cons_succ] at h
      have hne : a.born ≠ e0.born := fun e1 => hn.1 (List.mem_map.2 ⟨e0, List.mem_of_getElem? h, e1.symm⟩)
      have hb : (((a.born : Nat) : Int) == ((e0.born : Nat) : Int)) = false := by
        simp only [beq_eq_false_iff_ne, ne_eq, Int.natCast_inj]
        exact hne
      rw [List.findIdx?_cons, hb]
      simp [ih hn.2 h]
/-- m[k] of a compound assignment where the key is there: the entry, then its value stored. -/
theorem run_entry (ht : P.underlying t = some (.map kt et)) (hk : P.underlying kt = some .string) (hb : w.heap[r]? = some (.map es clock)) (hf : FSR w es.toList fs) (hst : St es clock)
    (k : ByteArray) {v : Value} {xs ys : List Int} (hv : Rd w v xs) (hg : fs.get k = some ys) :
    ∃ v0 st es1 es2, (Instr.mapEntry t (.map (some r)) (.string k)).run P w = .ok (.tuple #[v0, goInt st]) (w.setO r (.map es1 clock)) ∧
      (∀ W : World, W.heap[r]? = some (.map es1 clock) → (Instr.entryStore t (.map (some r)) (goInt st) v).run P W = .ok () (W.setO r (.map es2 clock))) ∧ FSR w es2.toList (fs.put k xs) ∧ St es2 clock := by
  obtain ⟨q, h1, h2⟩ := findNow_str k 0 hf
  have hp := put_at (clock := clock) (k := k) hv (fun e => e.born) 0 hf
  rcases h2 with ⟨rfl, h3⟩ | ⟨j, u, zs, rfl, h3, h4, h5, h6, h7⟩
  · rw [hg] at h3; cases h3
  · obtain ⟨e0, he0, hk0⟩ := Option.map_eq_some_iff.1 h7
    have hkey : ((es[j]?).map (·.key)).getD (.string k) = .string k := by
      rw [← Array.getElem?_toList, h7]; rfl
    have hborn : ((es[j]?).map (·.born)).getD 0 = e0.born := by
      rw [← Array.getElem?_toList, he0]; rfl
    refine ⟨u, e0.born, es.modify j fun e => { e with key := .string k }, es.modify j fun e => ⟨.string k, v, e.born⟩, ?_, fun W hW => ?_, by rw [Array.toList_modify]; exact hp.2 j u (by simpa using h1), hst.modify j _ fun _ => rfl⟩
    · simp only [Nat.zero_add] at h1
      simp [Instr.mapEntry, run_underlying ht, run_getMap hb, run_checkKey_str hk, run_findKey_str hk h1, run_setMap hb, Result.andThen, hkey, run_keyStays]
      have he0' : es[j]? = some e0 := by simpa using he0
      simp [he0']
    · have hidx : (es.modify j fun e => { e with key := .string k }).findIdx? (fun e => ((e.born : Nat) : Int) == ((e0.born : Nat) : Int)) = some j := by
        rw [findIdx_arr, Array.toList_modify]
        refine findIdx_born (e0 := { e0 with key := .string k }) ?_ ?_
        · rw [map_modify_born (fun e => { e with key := .string k }) fun _ => rfl]; exact hst.2
        · simp [List.getElem?_modify, he0]
      have hmod : (es.modify j fun e => { e with key := .string k }).modify j (fun e => { e with val := v }) = es.modify j fun e => ⟨.string k, v, e.born⟩ := by
        apply Array.ext'
        simp only [Array.toList_modify, List.modify_modify_eq]
        rfl
      simp [Instr.entryStore, run_getMap hW, asInt, asIntOf, goInt, hidx, hmod, run_setMap hW, Result.andThen]
theorem run_len_map (ht : P.underlying t = some (.map kt et)) (hb : w.heap[r]? = some (.map es clock)) (hf : FSR w es.toList fs) (ty : TypeId) :
    (Builtin.len_ #[t] ty #[.map (some r)]).run P w = .ok (goInt fs.length) w := by
  have := hf.len
  simp at this
  simp [Builtin.len_, run_underlying ht, run_getMap hb, Result.andThen, this]
end
end Go.Proofs.Ytalnhdeckdakfaa.Dev
