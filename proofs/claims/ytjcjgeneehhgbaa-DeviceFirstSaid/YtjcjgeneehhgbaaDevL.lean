/-
  Joined (of two byte strings), and what the laws' walks begin with.
-/
import Derived.Test.YtjcjgeneehhgbaaDevK
namespace Go.Proofs.Ytjcjgeneehhgbaa.Dev
open Go.RowKit Go.Proofs
set_option linter.unusedVariables false
set_option linter.unusedSectionVars false
set_option linter.unusedSimpArgs false
variable [Bs]

/-- An argument that came in, as bytes. -/
theorem rd_of_row {w : World} {a : Option Addr} {len cap : Nat} {zs : List Int} (hB : Bs.n = w.heap.size)
    (h : (a = none ∧ len = 0 ∧ cap = 0 ∧ zs = []) ∨ ∃ x, a = some x ∧ len ≤ cap ∧ cap ≤ maxLen ∧ zs.length = cap ∧ (∀ i, i < zs.length → w.cell? (x.add i) = some (.int .u8 (zs.getD i 0))) ∧ ∀ n ∈ zs, (Lit.int .u8 n).wf = true) : ∃ xs, xs.length = len ∧ Rd w (.slice a len cap) xs := by
  rcases h with ⟨rfl, rfl, rfl, rfl⟩ | ⟨x, rfl, hl, hm, hz, hc, _⟩
  · exact ⟨[], rfl, Rd.nil w⟩
  · have hlen : (zs.take len).length = len := by rw [List.length_take]; omega
    refine ⟨zs.take len, hlen, some x, cap, by rw [hlen], by omega, by simp only [maxLen] at hm; omega, fun i hi => ⟨x, rfl, ?_, .inl ?_⟩⟩
    · rw [hc i (by omega)]
      simp [List.getD_eq_getElem?_getD, List.getElem?_take, show i < len by omega]
    · have := World.block_lt_of_cell? w _ (hc i (by omega))
      rw [add_block] at this
      omega

set_option maxHeartbeats 1000000 in
set_option maxRecDepth 20000 in
theorem joined_calls {w : World} {a : Nat} {vs : List Value} {ls : List (List Int)} (hR : RdAll w vs ls) (hc : ∀ i, i < vs.length → w.cell? ⟨a, i, none⟩ = some (vs.getD i (.slice none 0 0)))
    (hn : vs.length ≤ 1000) (hl : total ls ≤ 140737488355328) :
    Calls Try.prog 16 #[.slice (some ⟨a, 0, none⟩) vs.length vs.length] w fun e w' => ∃ v1, e = .returned v1 ∧ w'.ownsRow w.heap.size 5 1 v1 ls.flatten.length (u8s ls.flatten) ∧ Below w.heap.size w w' := by
  have hlen := hR.1
  have HR := Lib.hid hR
  have HC := Lib.hid hc
  have HL := Lib.hid hl
  have hlen' : ls.length ≤ vs.length := by omega
  have hlen'' : vs.length ≤ ls.length := by omega
  clear hR hc hl hlen
  go_enter Try.func16, Try.ntmps16
  go_wp2
  go_loopw [3, 4] (fun v i wr => ∃ k : Nat, k ≤ vs.length ∧ i = .int .i64 k ∧ wr.ownsRow w.heap.size 5 1 v (ls.take k).flatten.length (u8s (ls.take k).flatten) ∧ Below w.heap.size w wr) (fun _ i _ => vs.length - (intOf i).toNat)
  case atStart => exact ⟨0, Nat.zero_le _, rfl, by simpa [u8s] using own_nil w w.heap.size 5 1, Below.refl _ _⟩
  case round =>
    obtain ⟨k, hk, rfl, ho, hB⟩ := hrel
    have HO2 := Lib.hid ho
    have HB2 := Lib.hid hB
    obtain ⟨A2, c2, he2⟩ := own_form ho
    clear ho hB
    subst he2
    by_cases hlt : k < vs.length
    · have hcell := cell_of_below HB2.out (HC.out k hlt)
      have hRk := U8.below HB2.out _ _ (HR.out.2 k hlt)
      have Hft := Lib.hid (flat_take ls k (by omega))
      have HRk := Lib.hid hRk
      have hle1 : (ls.take k).flatten.length + (ls.getD k []).length ≤ 140737488355328 := by
        have h1 := flat_len (ls.take (k + 1))
        have h2 := total_le ls (k + 1)
        have h3 := HL.out
        rw [Hft.out, List.length_append] at h1
        omega
      have Hle1 := Lib.hid hle1
      clear hRk hle1
      obtain ⟨A3, c3, hv3, _⟩ := HRk.out
      rw [hv3] at hcell HRk
      clear hv3
      generalize (ls.getD k []) = m at *
      generalize (ls.take k).flatten = q2 at *
      go_wp2_with (at_builtin; refine wpList_append_rd w.heap.size rfl _ _ 22 5 rfl Try.underlying22 info5 _ _ q2 m rfl rfl HO2.out HRk.out HB2.out.size Hle1.out ?_; intro v5 w5 ho5 hg5; have HO5 := Lib.hid ho5; have HB5 := Lib.hid (below_of_grown HB2.out HO2.out hg5); clear ho5 hg5)
      refine ⟨⟨k + 1, by omega, by go_num, by rw [Hft.out]; exact HO5.out, HB5.out⟩, by simp [intOf]; omega⟩
    · have hkk : ls.take k = ls := List.take_of_length_le (by omega)
      have Hkk := Lib.hid hkk
      clear hkk
      go_wp2
      go_ret
      refine ⟨.slice A2 (List.take k ls).flatten.length c2, rfl, ?_, HB2.out⟩
      have h := HO2.out
      rw [Hkk.out] at h ⊢
      exact h
theorem joined2_calls {w : World} {a : Nat} {v0 v1 : Value} {ys xs : List Int} (h0 : Rd w v0 ys) (h1 : Rd w v1 xs) (c0 : w.cell? ⟨a, 0, none⟩ = some v0) (c1 : w.cell? ⟨a, 1, none⟩ = some v1) (hl : ys.length + xs.length ≤ 140737488355328) :
    Calls Try.prog 16 #[.slice (some ⟨a, 0, none⟩) 2 2] w fun e w' => ∃ v, e = .returned v ∧ w'.ownsRow w.heap.size 5 1 v (ys ++ xs).length (u8s (ys ++ xs)) ∧ Below w.heap.size w w' := by
  have h := joined_calls (w := w) (a := a) (vs := [v0, v1]) (ls := [ys, xs]) ⟨rfl, fun i hi => by
      match i, hi with
      | 0, _ => exact h0
      | 1, _ => exact h1⟩ (fun i hi => by
      match i, hi with
      | 0, _ => exact c0
      | 1, _ => exact c1) (by simp) (by simpa [total] using hl)
  simpa using h
theorem joined1_calls {w : World} {a : Nat} {v0 : Value} {ys : List Int} (h0 : Rd w v0 ys) (c0 : w.cell? ⟨a, 0, none⟩ = some v0) (hl : ys.length ≤ 140737488355328) :
    Calls Try.prog 16 #[.slice (some ⟨a, 0, none⟩) 1 1] w fun e w' => ∃ v, e = .returned v ∧ w'.ownsRow w.heap.size 5 1 v ys.length (u8s ys) ∧ Below w.heap.size w w' := by
  have h := joined_calls (w := w) (a := a) (vs := [v0]) (ls := [ys]) ⟨rfl, fun i hi => by
      match i, hi with
      | 0, _ => exact h0⟩ (fun i hi => by
      match i, hi with
      | 0, _ => exact c0) (by simp) (by simpa [total] using hl)
  simpa using h

/-! Plain: how the states go on -/
theorem perform_zero {d : DS} (h : d.fuse = 0) (o : Op) : d.perform o = ({ d with now := app d.now o, pend := d.pend ++ [o] }, 0) := by simp [DS.perform, DS.burn, h]
theorem sync_zero {d : DS} (h : d.fuse = 0) (hd : d.down = false) : d.sync = (d.settle d.pend, 0) := by simp [DS.sync, DS.burn, h, hd]
theorem create_ok {d : DS} {k : ByteArray} {b : List Int} (hc : chk d.down false d.now [k] = 0) (hb : b.length ≤ 4194304) (hl : d.now.length < 256) : d.create k b = d.perform ⟨1, k, ⟨#[]⟩, b⟩ := by
  have : ¬ (4194304 < b.length ∨ ((d.now.get k).isSome = false ∧ 256 ≤ d.now.length)) := by omega
  simp only [DS.create, hc, if_true, this, if_false]
theorem append_ok {d : DS} {k : ByteArray} {b : List Int} (hc : chk d.down true d.now [k] = 0) (hb : ((d.now.get k).getD []).length + b.length ≤ 4194304) : d.append k b = d.perform ⟨2, k, ⟨#[]⟩, b⟩ := by
  have : ¬ 4194304 < ((d.now.get k).getD []).length + b.length := by omega
  simp only [DS.append, hc, if_true, this, if_false]
end Go.Proofs.Ytjcjgeneehhgbaa.Dev
