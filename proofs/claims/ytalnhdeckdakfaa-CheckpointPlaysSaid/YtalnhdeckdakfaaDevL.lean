/-
  Joined (of two byte strings), and what the laws' walks begin with.
-/
import Derived.Test.YtalnhdeckdakfaaDevK
namespace Go.Proofs.Ytalnhdeckdakfaa.Dev
open Go.RowKit Go.Proofs
set_option linter.unusedVariables false
set_option linter.unusedSectionVars false
set_option linter.unusedSimpArgs false
variable [Bs]

/-- An argument that came in, as bytes. -/
theorem rd_of_row {w : World} {a : Option Addr} {len cap : Nat} {zs : List Int} (hB : Bs.n = w.heap.size)
    (h : (a = none ∧ len = 0 ∧ cap = 0 ∧ zs = []) ∨ ∃ x, a = some x ∧ len ≤ cap ∧ cap ≤ maxLen ∧ zs.length = cap ∧ (∀ i, i < zs.length → w.cell? (x.add i) = some (.int .u8 (zs.getD i 0))) ∧ ∀ n ∈ zs, (Lit.int .u8 n).wf = true) : ∃ xs, xs.length = len ∧ Rd w (.slice a len cap) xs := by
  rcases h with ⟨rfl, rfl, rfl, rfl⟩ | ⟨x, rfl, hl, hm, hz, hc, _⟩
  · exact ⟨[], rfl, Rd.nil w⟩
  · have hlen : (zs.take len).length = len := by rw [List.length_take]; omega
    refine ⟨zs.take len, hlen, some x, cap, by rw [hlen], by omega, by simp only [maxLen] at hm; omega, fun i hi => ⟨x, rfl, ?_, .inl ?_⟩⟩
    · rw [hc i (by omega)]
      simp [List.getD_eq_getElem?_getD, List.getElem?_take, show i < len by omega]
    · have := World.block_lt_of_cell? w _ (hc i (by omega))
      rw [add_block] at this
      omega

/-! Plain: how the states go on -/
theorem perform_zero {d : DS} (h : d.fuse = 0) (o : Op) : d.perform o = ({ d with now := app d.now o, pend := d.pend ++ [o] }, 0) := by simp [DS.perform, DS.burn, h]
theorem sync_zero {d : DS} (h : d.fuse = 0) (hd : d.down = false) : d.sync = (d.settle d.pend, 0) := by simp [DS.sync, DS.burn, h, hd]
theorem create_ok {d : DS} {k : ByteArray} {b : List Int} (hc : chk d.down false d.now [k] = 0) (hb : b.length ≤ 4194304) (hl : d.now.length < 256) : d.create k b = d.perform ⟨1, k, ⟨#[]⟩, b⟩ := by
  have : ¬ (4194304 < b.length ∨ ((d.now.get k).isSome = false ∧ 256 ≤ d.now.length)) := by omega
  simp only [DS.create, hc, if_true, this, if_false]
theorem append_ok {d : DS} {k : ByteArray} {b : List Int} (hc : chk d.down true d.now [k] = 0) (hb : ((d.now.get k).getD []).length + b.length ≤ 4194304) : d.append k b = d.perform ⟨2, k, ⟨#[]⟩, b⟩ := by
  have : ¬ 4194304 < ((d.now.get k).getD []).length + b.length := by omega
  simp only [DS.append, hc, if_true, this, if_false]
end Go.Proofs.Ytalnhdeckdakfaa.Dev
