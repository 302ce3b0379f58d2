/-
  The device: an operation that is done ('perform').
-/
import Derived.Test.YtalnhdeckdakfaaDevD
import Derived.StillTailTactics
import Derived.Deep.AppendLies
import Derived.Deep.RegionLaw
import Derived.RegionTactic
import Derived.BigRegion
namespace Go.Proofs.Ytalnhdeckdakfaa.Dev
open Go.RowKit Go.Proofs
set_option linter.unusedVariables false
set_option linter.unusedSectionVars false
set_option linter.unusedSimpArgs false
variable [Bs]

/-- the function of a kind of operation -/
def FN (k : Nat) : Nat := if k = 1 then 59 else if k = 2 then 71 else if k = 3 then 78 else 0
def fnOf (k : Nat) : Value := .func (.func (FN k)) #[] #[]
/-- the cells of operations -/
def OpsR (w : World) : List Value → List Op → Prop
  | [], [] => True
  | f :: a :: b :: v :: c :: cs, o :: os => (f = fnOf o.kind ∧ a = .string o.name ∧ b = .string o.to ∧ Rd w v o.b ∧ c = .bool o.writes) ∧ OpsR w cs os
  | _, _ => False
theorem OpsR.move {w w' : World} (hu : U8 w w') : ∀ {cs : List Value} {os : List Op}, OpsR w cs os → OpsR w' cs os
  | [], [], h => h
  | _ :: _ :: _ :: _ :: _ :: _, _ :: _, h => ⟨⟨h.1.1, h.1.2.1, h.1.2.2.1, hu _ _ h.1.2.2.2.1, h.1.2.2.2.2⟩, OpsR.move hu h.2⟩
theorem OpsR.len {w : World} : ∀ {cs : List Value} {os : List Op}, OpsR w cs os → cs.length = os.length * 5
  | [], [], _ => rfl
  | _ :: _ :: _ :: _ :: _ :: _, _ :: _, h => by simp [OpsR.len h.2]; omega
theorem OpsR.snoc {w : World} {o : Op} {v : Value} (hv : Rd w v o.b) : ∀ {cs : List Value} {os : List Op}, OpsR w cs os → OpsR w (cs ++ [fnOf o.kind, .string o.name, .string o.to, v, .bool o.writes]) (os ++ [o])
  | [], [], _ => ⟨⟨rfl, rfl, rfl, hv, rfl⟩, trivial⟩
  | _ :: _ :: _ :: _ :: _ :: _, _ :: _, h => ⟨h.1, OpsR.snoc hv h.2⟩

theorem infoO : (Try.prog.info? 90).map (fun i => (i.zero, i.size, i.bytes)) = some (some (.agg #[.nilFunc, .string ⟨#[]⟩, .string ⟨#[]⟩, .slice none 0 0, .bool false]), 5, 72) := by kernel_rfl
theorem do_calls {w : World} {r : Nat} {fs : FS} (h : MapI w r fs) (o : Op) (hk : o.kind = 1 ∨ o.kind = 2 ∨ o.kind = 3 ∨ False) {v : Value} (hv : Rd w v o.b) (hl : ((fs.get o.name).getD []).length + o.b.length ≤ 140737488355328) :
    Calls Try.prog (FN o.kind) #[.map (some r), .string o.name, .string o.to, v] w fun e w' => e = .returned (.tuple #[]) ∧ MapI w' r (app fs o) ∧ Fr (· = r) w w' ∧ U8 w w' := by
  obtain ⟨k, name, to, b⟩ := o
  simp only at hk hv hl ⊢
  rcases hk with rfl | rfl | rfl | hk
  · exact create_calls h name to hv
  · exact append_calls h name to hv hl
  · exact rename_calls h name to v
  · exact hk.elim

theorem run_callFunc {f : Nat} {fn : Func} (hf : Try.prog.funcs[f]? = some fn) (hn : (fn.name == "runtime.NumGoroutine") = false) (hb : fn.body.isNone = false) (args : Array Value) (w : World) :
    (callFunc f args).run Try.prog w = .ok (.enter f args) w := by
  have hn' : fn.name ≠ "runtime.NumGoroutine" := by simpa using hn
  have hb' : ¬ fn.body = none := by intro h; rw [h] at hb; cases hb
  simp [callFunc, hf, hn', hb']
theorem run_do (k : Nat) (hk : k = 1 ∨ k = 2 ∨ k = 3 ∨ False) (args : Array Value) (w : World) : (callFunc (FN k) args).run Try.prog w = .ok (.enter (FN k) args) w := by
  rcases hk with rfl | rfl | rfl | hk
  · exact run_callFunc Try.func59 (by kernel_rfl) (by kernel_rfl) args w
  · exact run_callFunc Try.func71 (by kernel_rfl) (by kernel_rfl) args w
  · exact run_callFunc Try.func78 (by kernel_rfl) (by kernel_rfl) args w
  · exact hk.elim
theorem dyn_call {ops : Array Oper} {rest : List Oper} {op : Oper} {a : Act} {Q : Exit → Act → World → Prop} {w : World} (hgd : op.guard = none) (f : Operand) (args : Array Operand) (tys : Array TypeId)
    (ho : op.op = .call { callee := .value f, args := args, argTypes := tys }) (k : Nat) (hk : k = 1 ∨ k = 2 ∨ k = 3 ∨ False) (hf : a.eval f = fnOf k) (vs : Array Value) (hvs : args.map a.eval = vs)
    (h : Calls Try.prog (FN k) vs w fun
      | .returned v, w'' => wpList Try.prog ops Q rest (a.put op.dst v) w''
      | .panicked chain, w'' => Q (.panic chain) a w''
      | .outgrown, _ => LetsOut Q) : wpList Try.prog ops Q (op :: rest) a w := by
  subst hvs
  unfold wpList
  rw [if_pos (by simp [Region.wanted, hgd])]
  refine .inl ?_
  unfold Oper.wp
  have hx : (execOp a.eval op).run Try.prog w = .ok (.enter (FN k) (args.map a.eval)) w := by
    simp [execOp, ho, resolve, hf, fnOf, Deferred.ofValue, invoke, run_do k hk]
  rw [hx]
  exact h

theorem DevB.lt {w : World} {d : Nat} {m1 m2 pv : Value} {fuse : Int} {down : Bool} (h : DevB w d m1 m2 pv fuse down) : d < w.heap.size := (Array.getElem?_eq_some_iff.1 h).1
theorem set_blk {w : World} {d i : Nat} {cs : Array Value} {t : TypeId} (h : w.heap[d]? = some (.cells cs t (0, 0))) (v : Value) : (w.setCell ⟨d, i, none⟩ v).heap[d]? = some (.cells (cs.setIfInBounds i v) t (0, 0)) := by
  have hlt := (Array.getElem?_eq_some_iff.1 h).1
  simp [World.setCell, Array.getElem?_modify, h]
theorem DevB.set2 {w : World} {d : Nat} {m1 m2 pv : Value} {fuse : Int} {down : Bool} (h : DevB w d m1 m2 pv fuse down) (v : Value) : DevB (w.setCell ⟨d, 2, none⟩ v) d m1 m2 v fuse down := set_blk h v
theorem DevB.set3 {w : World} {d : Nat} {m1 m2 pv : Value} {fuse : Int} {down : Bool} (h : DevB w d m1 m2 pv fuse down) (n : Int) : DevB (w.setCell ⟨d, 3, none⟩ (.int .i64 n)) d m1 m2 pv n down := set_blk h _
theorem DevB.set4 {w : World} {d : Nat} {m1 m2 pv : Value} {fuse : Int} {down : Bool} (h : DevB w d m1 m2 pv fuse down) (b : Bool) : DevB (w.setCell ⟨d, 4, none⟩ (.bool b)) d m1 m2 pv fuse b := set_blk h _
theorem DevB.set1 {w : World} {d : Nat} {m1 m2 pv : Value} {fuse : Int} {down : Bool} (h : DevB w d m1 m2 pv fuse down) (v : Value) : DevB (w.setCell ⟨d, 1, none⟩ v) d m1 v pv fuse down := set_blk h _
theorem DevB.no8 {w : World} {d : Nat} {m1 m2 pv : Value} {fuse : Int} {down : Bool} (h : DevB w d m1 m2 pv fuse down) (hB : Bs.n ≤ d) : ¬ Own8 w d := by
  rintro (h1 | ⟨cs, fr, h1⟩)
  · omega
  · have h2 : _ = _ := h
    rw [h1] at h2
    injection h2 with h2
    injection h2 with _ h2
    exact absurd h2 (by decide)
theorem own_no8 {w : World} {pv : Value} {n : Nat} {cells : List Value} (h : w.ownsRow Bs.n 90 5 pv n cells) {i : Nat} (hi : pv.ownBlock = some i) : ¬ Own8 w i := by
  rcases h.2 with ⟨rfl, _⟩ | ⟨q, cap, cur, rfl, e2, e3, _⟩
  · cases hi
  · have e' : q = i := by simpa [Value.ownBlock] using hi
    subst e'
    rintro (h1 | ⟨cs, fr, h1⟩)
    · omega
    · rw [h1] at e3
      injection e3 with e3
      injection e3 with _ e3
      exact absurd e3 (by decide)

theorem own_ne_dev {w : World} {d : Nat} {m1 m2 pv v : Value} {fuse : Int} {down : Bool} {base n : Nat} {cells : List Value} (hD : DevB w d m1 m2 pv fuse down) (h : w.ownsRow base 90 5 v n cells) : v.ownBlock = none ∨ v.ownBlock ≠ some d := by
  rcases h.2 with ⟨rfl, _⟩ | ⟨q, cap, cur, rfl, _, e3, _⟩
  · exact .inl rfl
  · refine .inr fun e => ?_
    have e' : q = d := by simpa [Value.ownBlock] using e
    subst e'
    have h2 : _ = _ := hD
    rw [e3] at h2
    injection h2 with h2
    injection h2 with _ h2
    exact absurd h2 (by decide)
theorem map_ne_own {w : World} {r : Nat} {fs : FS} (h : MapI w r fs) {v : Value} {base n : Nat} {e : TypeId} {s : Nat} {cells : List Value} (ho : w.ownsRow base e s v n cells) : v.ownBlock ≠ some r := by
  intro he
  obtain ⟨_, es, clock, hh, _⟩ := h
  rcases ho.2 with ⟨rfl, _⟩ | ⟨q, cap, cur, rfl, _, e3, _⟩
  · cases he
  · have e' : q = r := by simpa [Value.ownBlock] using he
    subst e'
    rw [hh] at e3; cases e3
theorem map_ne_dev {w : World} {r d : Nat} {fs : FS} (h : MapI w r fs) {m1 m2 pv : Value} {fuse : Int} {down : Bool} (hD : DevB w d m1 m2 pv fuse down) : r ≠ d := by
  rintro rfl
  obtain ⟨_, es, clock, hh, _⟩ := h
  have h2 : _ = _ := hD
  rw [hh] at h2; cases h2

theorem perform_end {w w3 w5 : World} {d rn g2 cap2 : Nat} {m1 pv : Value} {down : Bool} {fuse : Int} {fs' : FS} {cells : List Value} {pend : List Op} {o : Op} {A : Option Addr} {c : Nat} {O : Obj}
    (hB : Bs.n ≤ d) (hP3 : w3.ownsRow Bs.n 90 5 pv pend.length cells) (hM3 : MapI w3 rn fs') (hF : Fr (fun i => i = d ∨ i = rn ∨ pv.ownBlock = some i) w w3) (hu : U8 w w3) (hO3 : OpsR w3 cells pend) (hv3 : Rd w3 (.slice A o.b.length c) o.b)
    (hg : (w3.alloc O).drew.grownBy w5 pv.ownBlock) (hD5 : DevB w5 d m1 (.map (some rn)) pv fuse down) (hD3 : DevB w3 d m1 (.map (some rn)) pv fuse down)
    (ho : w5.ownsRow Bs.n 90 5 (.slice (some ⟨g2, 0, none⟩) (pend.length + 1) cap2) (pend.length + 1) (cells ++ [fnOf o.kind, .string o.name, .string o.to, .slice A o.b.length c, .bool o.writes]))
    (hbb : pv.ownBlock = some g2 ∨ g2 = (w3.alloc O).drew.heap.size) :
    ∃ pv' cells', DevB (w5.setCell ⟨d, 2, none⟩ (.slice (some ⟨g2, 0, none⟩) (pend.length + 1) cap2)) d m1 (.map (some rn)) pv' fuse down ∧ MapI (w5.setCell ⟨d, 2, none⟩ (.slice (some ⟨g2, 0, none⟩) (pend.length + 1) cap2)) rn fs' ∧
      (w5.setCell ⟨d, 2, none⟩ (.slice (some ⟨g2, 0, none⟩) (pend.length + 1) cap2)).ownsRow Bs.n 90 5 pv' (pend ++ [o]).length cells' ∧ OpsR (w5.setCell ⟨d, 2, none⟩ (.slice (some ⟨g2, 0, none⟩) (pend.length + 1) cap2)) cells' (pend ++ [o]) ∧
      Fr (fun i => i = d ∨ i = rn ∨ pv.ownBlock = some i) w (w5.setCell ⟨d, 2, none⟩ (.slice (some ⟨g2, 0, none⟩) (pend.length + 1) cap2)) ∧ (∀ i, pv'.ownBlock = some i → pv.ownBlock = some i ∨ w.heap.size ≤ i) := by
  have hb1 : Below w3.heap.size w3 (w3.alloc O).drew := ((Below.refl _ _).alloc (Nat.le_refl _) _).drew
  have hF5 : Fr (fun i => pv.ownBlock = some i) w3 w5 := ⟨hg.os.trans hb1.os, hg.tape.trans hb1.tape, hg.output.trans hb1.output, Nat.le_trans hb1.size hg.size, fun i hi hn => (hg.block i (Nat.lt_of_lt_of_le hi hb1.size) (fun e => hn e.symm)).trans (hb1.block i hi)⟩
  have hu5 : U8 w3 w5 := hF5.u8 fun i hi => own_no8 hP3 hi
  have hFs : Fr (fun i => i = d) w5 (w5.setCell ⟨d, 2, none⟩ (.slice (some ⟨g2, 0, none⟩) (pend.length + 1) cap2)) := Fr.setCell (S := fun i => i = d) rfl _
  have hus : U8 w5 (w5.setCell ⟨d, 2, none⟩ (.slice (some ⟨g2, 0, none⟩) (pend.length + 1) cap2)) := hFs.u8 fun i hi => hi ▸ hD5.no8 hB
  have hrd := map_ne_dev hM3 hD3
  refine ⟨.slice (some ⟨g2, 0, none⟩) (pend.length + 1) cap2, cells ++ [fnOf o.kind, .string o.name, .string o.to, .slice A o.b.length c, .bool o.writes], hD5.set2 _, ?_, ?_, ?_, ?_, ?_⟩
  · refine (hM3.move (hF5.block rn hM3.lt (map_ne_own hM3 hP3)) hu5).move (hFs.block rn (Nat.lt_of_lt_of_le hM3.lt hF5.size) hrd) hus
  · have hne := own_ne_dev hD5 ho
    rw [List.length_append]
    refine ⟨ho.1, ?_⟩
    rcases ho.2 with hz | ⟨q, cap, cur, e1, e2, e3, e4⟩
    · exact .inl hz
    · refine .inr ⟨q, cap, cur, e1, e2, ?_, e4⟩
      rw [hFs.block q (Array.getElem?_eq_some_iff.1 e3).1 (fun e => by
        subst e
        rcases hne with h | h
        · cases h
        · exact h (by injection e1 with e1; injection e1 with e1; injection e1 with e1; subst e1; rfl))]
      exact e3
  · exact (OpsR.snoc (hu5 _ _ hv3) (hO3.move hu5)).move hus
  · refine hF.trans ⟨?_, ?_, ?_, ?_, ?_⟩
    · exact hFs.os.trans hF5.os
    · exact hFs.tape.trans hF5.tape
    · exact hFs.output.trans hF5.output
    · exact Nat.le_trans hF5.size hFs.size
    · intro i hi hn
      rw [hFs.block i (Nat.lt_of_lt_of_le hi hF5.size) (fun e => hn (.inl e)), hF5.block i hi (fun e => hn (.inr (.inr e)))]
  · intro i hi
    have e' : g2 = i := by simpa [Value.ownBlock] using hi
    subst e'
    rcases hbb with h | h
    · exact .inl h
    · refine .inr ?_
      rw [h]
      have := hF.size
      simp
      omega

theorem own_fr {w w' : World} {S : Nat → Prop} (hF : Fr S w w') {base n : Nat} {e : TypeId} {s : Nat} {v : Value} {cells : List Value} (h : w.ownsRow base e s v n cells) (hn : ∀ i, v.ownBlock = some i → ¬ S i) : w'.ownsRow base e s v n cells := by
  refine ⟨h.1, ?_⟩
  rcases h.2 with hz | ⟨q, cap, cur, rfl, e2, e3, e4⟩
  · exact .inl hz
  · refine .inr ⟨q, cap, cur, rfl, e2, ?_, e4⟩
    rw [hF.block q (Array.getElem?_eq_some_iff.1 e3).1 (hn q rfl)]
    exact e3
theorem burn_zero' {w : World} {d : Nat} {m1 m2 pv : Value} {down : Bool} (h : DevB w d m1 m2 pv 0 down) :
    Calls Try.prog 56 #[.pointer (some ⟨d, 0, none⟩)] w fun e w' => e = .returned (.int .i64 0) ∧ DevB w' d m1 m2 pv 0 down ∧ Fr (· = d) w w' :=
  (burn_zero h).mono fun e w' ⟨h1, h2⟩ => ⟨h1, h2 ▸ h, h2 ▸ Fr.refl _ _⟩
theorem burn_more' {w : World} {d : Nat} {m1 m2 pv : Value} {down : Bool} {n : Int} (h : DevB w d m1 m2 pv n down) (h1 : 2 ≤ n) (h2 : n ≤ 1000000) :
    Calls Try.prog 56 #[.pointer (some ⟨d, 0, none⟩)] w fun e w' => e = .returned (.int .i64 0) ∧ DevB w' d m1 m2 pv (n - 1) down ∧ Fr (· = d) w w' :=
  (burn_more h h1 h2).mono fun e w' ⟨e1, e2⟩ => ⟨e1, e2 ▸ h.set3 _, e2 ▸ Fr.setCell (S := (· = d)) rfl _⟩
theorem burn_out' {w : World} {d : Nat} {m1 m2 pv : Value} {down : Bool} (h : DevB w d m1 m2 pv 1 down) :
    Calls Try.prog 56 #[.pointer (some ⟨d, 0, none⟩)] w fun e w' => e = .returned (.int .i64 303) ∧ DevB w' d m1 m2 pv 0 true ∧ Fr (· = d) w w' :=
  (burn_out h).mono fun e w' ⟨e1, e2⟩ => ⟨e1, e2 ▸ (h.set3 _).set4 _, e2 ▸ (Fr.setCell (S := (· = d)) rfl _).trans (Fr.setCell (S := (· = d)) rfl _)⟩

set_option maxHeartbeats 1000000 in
set_option maxRecDepth 100000 in
theorem perform_ok {w : World} {d rn : Nat} {m1 pv : Value} {down : Bool} {f f' : Int} {fs : FS} {cells : List Value} {pend : List Op} (h : DevB w d m1 (.map (some rn)) pv f down)
    (hburn : ∀ W, DevB W d m1 (.map (some rn)) pv f down → Calls Try.prog 56 #[.pointer (some ⟨d, 0, none⟩)] W fun e W' => e = .returned (.int .i64 0) ∧ DevB W' d m1 (.map (some rn)) pv f' down ∧ Fr (· = d) W W') (hM : MapI w rn fs)
    (hB : Bs.n ≤ d) (hP : w.ownsRow Bs.n 90 5 pv pend.length cells) (hO : OpsR w cells pend) (o : Op) (hk : o.kind = 1 ∨ o.kind = 2 ∨ o.kind = 3 ∨ False) {v : Value} (hv : Rd w v o.b) (hl : ((fs.get o.name).getD []).length + o.b.length ≤ 140737488355328) (hn : pend.length ≤ 100000) :
    Calls Try.prog 58 #[.pointer (some ⟨d, 0, none⟩), .agg #[fnOf o.kind, .string o.name, .string o.to, v, .bool o.writes]] w fun e w' => e = .returned (.int .i64 0) ∧
      ∃ pv' cells', DevB w' d m1 (.map (some rn)) pv' f' down ∧ MapI w' rn (app fs o) ∧ w'.ownsRow Bs.n 90 5 pv' (pend ++ [o]).length cells' ∧ OpsR w' cells' (pend ++ [o]) ∧
        Fr (fun i => i = d ∨ i = rn ∨ pv.ownBlock = some i) w w' ∧ (∀ i, pv'.ownBlock = some i → pv.ownBlock = some i ∨ w.heap.size ≤ i) := by
  have Hv := Lib.hid hv
  obtain ⟨A, c, rfl, hv'⟩ := hv
  have hb0 : Below w.heap.size w (w.alloc (.cells #[fnOf o.kind, .string o.name, .string o.to, .slice A o.b.length c, .bool o.writes] 90)) := (Below.refl _ _).alloc (Nat.le_refl _) _
  have hD1 : DevB (w.alloc (.cells #[fnOf o.kind, .string o.name, .string o.to, .slice A o.b.length c, .bool o.writes] 90)) d m1 (.map (some rn)) pv f down := blk_below h hb0
  have hbk : (w.alloc (.cells #[fnOf o.kind, .string o.name, .string o.to, .slice A o.b.length c, .bool o.writes] 90)).heap[w.heap.size]? = some (.cells #[fnOf o.kind, .string o.name, .string o.to, .slice A o.b.length c, .bool o.writes] 90 (0, 0)) := heap_alloc_new w _
  have Hburn := Lib.hid hburn
  clear hburn
  go_enter Try.func58, Try.ntmps58
  go_wp2_with fail
  refine (Hburn.out _ hD1).mono ?_
  rintro e w1 ⟨rfl, hDb, hFb⟩
  -- what is known in the world behind 'burn'
  have hdw := h.lt
  have hbk1 : w1.heap[w.heap.size]? = some (.cells #[fnOf o.kind, .string o.name, .string o.to, .slice A o.b.length c, .bool o.writes] 90 (0, 0)) := by
    rw [hFb.block _ (Array.getElem?_eq_some_iff.1 hbk).1 (by omega)]; exact hbk
  have hF01 : Fr (· = d) w w1 := (Fr.below hb0).trans hFb
  have hu01 : U8 w w1 := hF01.u8 fun i hi => hi ▸ h.no8 hB
  have hdr : d ≠ rn := fun e => map_ne_dev hM h e.symm
  have hM1 : MapI w1 rn fs := hM.move (hF01.block _ hM.lt (fun e => hdr e.symm)) hu01
  have hP1 := own_fr hF01 hP (fun i hi e => by
    rcases own_ne_dev h hP with h1 | h1
    · rw [h1] at hi; cases hi
    · exact h1 (by rw [hi, e]))
  have hO1 := hO.move hu01
  have hg : w.heap.size ≠ rn := by have := hM.lt; omega
  have hgd : w.heap.size ≠ d := by omega
  have hg1 : w.heap.size < w1.heap.size := (Array.getElem?_eq_some_iff.1 hbk1).1
  have HF01 := Lib.hid hF01
  have Hu01 := Lib.hid hu01
  have HM1 := Lib.hid hM1
  have HP1 := Lib.hid hP1
  have HO1 := Lib.hid hO1
  have HB := Lib.hid hB
  have Hn := Lib.hid hn
  have Hl := Lib.hid hl
  have Hk := Lib.hid hk
  have Hdr := Lib.hid hdr
  clear h hb0 hD1 hbk hFb hF01 hu01 hM1 hP1 hO1 hB hn hl hdr hM hP hO hv' Hburn
  generalize w.heap.size = g at hbk1 hg hgd hg1 hdw ⊢
  have Hg := Lib.hid hg
  clear hg hgd hdw
  have c1 := hDb.c1
  have x0 : w1.cell? ⟨g, 0, none⟩ = some (fnOf o.kind) := (blk_cell hbk1 0).trans rfl
  have x1 : w1.cell? ⟨g, 1, none⟩ = some (.string o.name) := (blk_cell hbk1 1).trans rfl
  have x2 : w1.cell? ⟨g, 2, none⟩ = some (.string o.to) := (blk_cell hbk1 2).trans rfl
  have x3 : w1.cell? ⟨g, 3, none⟩ = some (.slice A o.b.length c) := (blk_cell hbk1 3).trans rfl
  have x4 : w1.cell? ⟨g, 4, none⟩ = some (.bool o.writes) := (blk_cell hbk1 4).trans rfl
  have Hbk1 := Lib.hid hbk1
  have HDb := Lib.hid hDb
  clear hbk1 hDb
  go_wp2
  go_still_tail 12, (by kernel_rfl)
  change wpList _ _ _ _ _ w1.drew
  generalize hw2 : w1.drew = w2
  have hb2 : Below w1.heap.size w1 w2 := by rw [← hw2]; exact (Below.refl _ _).drew
  have hM2 : MapI w2 rn fs := HM1.out.move (hb2.block _ HM1.out.lt) (U8.below hb2)
  have hu2 := Hu01.out.trans (U8.below hb2)
  refine dyn_call rfl _ _ _ rfl o.kind Hk.out rfl #[.map (some rn), .string o.name, .string o.to, .slice A o.b.length c] (by simp only [List.map_toArray, List.map_cons, List.map_nil]; rfl) ?_
  refine (do_calls hM2 o Hk.out (hu2 _ _ Hv.out) Hl.out).mono ?_
  rintro e w3 ⟨rfl, hM3, hF3, hu3⟩
  have hF13 : Fr (· = rn) w1 w3 := (Fr.below hb2).trans hF3
  have hD3 : DevB w3 d m1 (.map (some rn)) pv f' down := (hF13.block d HDb.out.lt Hdr.out).trans HDb.out
  have hbk3 : w3.heap[g]? = some (.cells #[fnOf o.kind, .string o.name, .string o.to, .slice A o.b.length c, .bool o.writes] 90 (0, 0)) := (hF13.block g hg1 Hg.out).trans Hbk1.out
  have hP3 := own_fr hF13 HP1.out (fun i hi e => map_ne_own HM1.out HP1.out (by rw [hi, e]))
  have hO3 := HO1.out.move ((U8.below hb2).trans hu3)
  have HF03 : Hid (Fr (fun i => i = d ∨ i = rn ∨ pv.ownBlock = some i) w w3) := Lib.hid ((HF01.out.mono fun i _ h => .inl h).trans (hF13.mono fun i _ h => .inr (.inl h)))
  have Hu03 := Lib.hid (hu2.trans hu3)
  have HM3 := Lib.hid hM3
  have HD3 := Lib.hid hD3
  have HP3 := Lib.hid hP3
  have HO3 := Lib.hid hO3
  have c2 := hD3.c2
  have f2 := hD3.fz 2
  clear hM3 hF3 hu3 hD3 hP3 hO3 hF13 hb2 hM2 hu2 hw2 c1 x0 x1 x2 x3 x4 HF01 Hu01 HM1 HP1 HO1 HDb Hbk1 hg1
  have y0 : w3.cell? ⟨g, 0, none⟩ = some (fnOf o.kind) := (blk_cell hbk3 0).trans rfl
  have y1 : w3.cell? ⟨g, 1, none⟩ = some (.string o.name) := (blk_cell hbk3 1).trans rfl
  have y2 : w3.cell? ⟨g, 2, none⟩ = some (.string o.to) := (blk_cell hbk3 2).trans rfl
  have y3 : w3.cell? ⟨g, 3, none⟩ = some (.slice A o.b.length c) := (blk_cell hbk3 3).trans rfl
  have y4 : w3.cell? ⟨g, 4, none⟩ = some (.bool o.writes) := (blk_cell hbk3 4).trans rfl
  obtain ⟨i0, hi, hzz⟩ := Option.map_eq_some_iff.1 infoO
  simp only [Prod.mk.injEq] at hzz
  obtain ⟨hz0, hz1, hz2⟩ := hzz
  have Hi := Lib.hid hi
  have Hz0 := Lib.hid hz0
  have Hz1 := Lib.hid hz1
  have Hz2 := Lib.hid hz2
  have Hb3 := Lib.hid hbk3
  have hdlt3 : d < w3.heap.size := HD3.out.lt
  have Hpd := Lib.hid (own_ne_dev HD3.out HP3.out)
  have Hdlt3 := Lib.hid hdlt3
  have hg3 : g < w3.heap.size := (Array.getElem?_eq_some_iff.1 Hb3.out).1
  clear hi hz0 hz1 hz2 hbk3
  go_wp2
  go_region_law (refine step_append_lies _ rfl (.tmp 28) (.tmp 30) 75 rfl Bs.n 90 i0 _ 5 72 Try.underlying75 Hi.out Hz0.out Hz1.out Hz2.out rfl (by decide) pv pend.length cells (by simp [Act.eval, Act.put]) ?c0 ⟨w3.heap.size, 0, none⟩ 1 1 [fnOf o.kind, .string o.name, .string o.to, .slice A o.b.length c, .bool o.writes] (by simp [Act.eval, Act.put]) rfl ?c1 ?c2 (by omega) ?c3 ?c4 ?c5 _ rfl ?_; (case c0 => exact HP3.out.alloc _); (case c1 => exact World.news_of_block (cs := #[fnOf o.kind, .string o.name, .string o.to, .slice A o.b.length c, .bool o.writes]) (heap_alloc_new w3 _)); (case c2 => intro u hu; simp at hu; rcases hu with rfl | rfl | rfl | rfl | rfl <;> rfl); (case c3 => have := Hn.out; simp only [maxLen]; omega); (case c4 => have := Hn.out; omega); (case c5 => have := Hdlt3.out; have := HB.out; simp; omega); intro g2 cap2 w5 ho hg hbb hlt; have HO5 := Lib.hid ho; have HG5 := Lib.hid hg; have Hbb := Lib.hid hbb; have HD5 : Hid (DevB w5 d m1 (.map (some rn)) pv f' down) := Lib.hid ((hg.block d (by have := Hdlt3.out; simp; omega) (Hpd.out.elim (fun e => by rw [e]; simp) (fun e e' => e e'.symm))).trans (blk_below HD3.out (((Below.refl _ _).alloc (Nat.le_refl _) _).drew))); have c52 := HD5.out.c2; have f52 := HD5.out.fz 2; clear ho hg hbb hlt)
  all_goals go_wp2
  all_goals go_ret
  all_goals exact ⟨rfl, perform_end HB.out HP3.out HM3.out HF03.out Hu03.out HO3.out (Hu03.out _ _ Hv.out) HG5.out HD5.out HD3.out HO5.out Hbb.out⟩
end Go.Proofs.Ytalnhdeckdakfaa.Dev
