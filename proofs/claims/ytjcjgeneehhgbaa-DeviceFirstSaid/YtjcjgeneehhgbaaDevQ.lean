/-
  'equal': whether two devices have the same files.
-/
import Derived.Test.YtjcjgeneehhgbaaDevP
import Derived.Test.YtjcjgeneehhgbaaDevN
namespace Go.Proofs.Ytjcjgeneehhgbaa.Dev
open Go.RowKit Go.Proofs
set_option linter.unusedVariables false
set_option linter.unusedSectionVars false
set_option linter.unusedSimpArgs false
variable [Bs]

def keysD (a : DS) : List ByteArray := sortK (a.now.map (·.1))
def eqAt (a b : DS) (i : Nat) : Bool :=
  decide ((keysD a).getD i ⟨#[]⟩ = (keysD b).getD i ⟨#[]⟩) && ((a.read ((keysD a).getD i ⟨#[]⟩)).2 == (b.read ((keysD a).getD i ⟨#[]⟩)).2) && decide (strOfNums (a.read ((keysD a).getD i ⟨#[]⟩)).1 = strOfNums (b.read ((keysD a).getD i ⟨#[]⟩)).1)
def eqD (a b : DS) : Bool := ((keysD a).length == (keysD b).length) && (List.range (keysD a).length).all (eqAt a b)
theorem read_same {a b : DS} (h : a.now = b.now) (hd : a.down = b.down) (k : ByteArray) : a.read k = b.read k := by simp only [DS.read, h, hd]
theorem eqD_same {a b : DS} (h : a.now = b.now) (hd : a.down = b.down) : eqD a b = true := by
  have e : keysD a = keysD b := by simp only [keysD, h]
  simp only [eqD, e, beq_self_eq_true, Bool.true_and, List.all_eq_true]
  intro i _
  simp only [eqAt, e, read_same h hd, beq_self_eq_true, Bool.and_self, decide_true]

set_option maxHeartbeats 4000000 in
set_option maxRecDepth 100000 in
theorem equal_calls {w : World} {a b : Nat} {sa sb : DS} {S T : Nat → Prop} (ha : DevI w a sa S) (hb : DevI w b sb T) (oa : sa.Ok) (ob : sb.Ok) (hsz : ∀ k ∈ keysD sa, k.size ≤ 9223372036854775807) (he : eqD sa sb = true) :
    Calls Try.prog 38 #[.pointer (some ⟨a, 0, none⟩), .pointer (some ⟨b, 0, none⟩)] w fun e w' => e = .returned (.bool true) ∧ Below w.heap.size w w' := by
  have HA := Lib.hid ha
  have HB := Lib.hid hb
  have Hsz := Lib.hid hsz
  have na : sa.now.length ≤ 1000000 := by have := oa.bnow.n; omega
  have nb : sb.now.length ≤ 1000000 := by have := ob.bnow.n; omega
  have Oa := Lib.hid oa
  have Ob := Lib.hid ob
  simp only [eqD, Bool.and_eq_true, beq_iff_eq, List.all_eq_true, List.mem_range] at he
  obtain ⟨hlen, hall⟩ := he
  have Hall := Lib.hid hall
  have la : (keysD sa).length ≤ 1000000 := by rw [keysD, sortK_len, List.length_map]; exact na
  clear ha hb oa ob hall hsz
  go_enter Try.func38, Try.ntmps38
  go_wp2_with fail
  refine (names_dev HA.out na).mono ?_
  rintro e w1 ⟨x, rfl, hx, hb1⟩
  have Hx := Lib.hid hx
  have Hb1 := Lib.hid hb1
  clear hx hb1
  go_wp2_with fail
  refine (names_dev (HB.out.below Hb1.out) nb).mono ?_
  rintro e w2 ⟨y, rfl, hy, hb2⟩
  have Hb2 := Lib.hid (below_trans Hb1.out hb2)
  have Hx2 := Lib.hid (Hx.out.below hb2)
  have Hy2 := Lib.hid hy
  obtain ⟨A0, c0, rfl, _⟩ := Hx.out
  obtain ⟨A1, c1, rfl, _⟩ := hy
  rw [show sortK (sa.now.map (·.1)) = keysD sa from rfl] at Hx2 ⊢
  rw [show sortK (sb.now.map (·.1)) = keysD sb from rfl] at Hy2 ⊢
  rw [← hlen] at *
  clear hb2 Hx Hb1
  go_wp2
  go_loopw [7, 8, 9, 10, 11] (fun i _ _ _ _ wr => ∃ q : Nat, q ≤ (keysD sa).length ∧ i = .int .i64 q ∧ Below w2.heap.size w2 wr) (fun i _ _ _ _ _ => (keysD sa).length - (intOf i).toNat)
  case atStart => exact ⟨0, by omega, rfl, Below.refl _ _⟩
  case round =>
    obtain ⟨q, hq, rfl, hb3⟩ := hrel
    have Hb3 := Lib.hid hb3
    clear hb3
    by_cases hlt : q < (keysD sa).length
    · have hat := Hall.out q hlt
      simp only [eqAt, Bool.and_eq_true, beq_iff_eq, decide_eq_true_eq] at hat
      obtain ⟨⟨t1, t2⟩, t3⟩ := hat
      have hks : ((keysD sa).getD q ⟨#[]⟩).size ≤ 9223372036854775807 := Hsz.out _ (by rw [List.getD_eq_getElem?_getD, List.getElem?_eq_getElem hlt, Option.getD_some]; exact List.getElem_mem hlt)
      have Hx3 := Lib.hid (Hx2.out.below Hb3.out)
      have Hy3 := Lib.hid (Hy2.out.below Hb3.out)
      have hb13 := below_trans Hb2.out Hb3.out
      have Hb13 := Lib.hid hb13
      obtain ⟨a3, c3, ex, _, _, hcx⟩ := Hx3.out
      obtain ⟨a4, c4, ey, _, _, hcy⟩ := Hy3.out
      injection ex with ex1 ex2 ex3
      injection ey with ey1 ey2 ey3
      subst ex1 ex3 ey1 ey3
      obtain ⟨ax, eax, cx⟩ := hcx q hlt
      obtain ⟨ay, eay, cy⟩ := hcy q (by omega)
      subst eax eay
      rw [← t1] at cy
      have T2 := Lib.hid t2
      have T3 := Lib.hid t3
      clear t1 t2 t3 hcx hcy ex2 ey2 hb13 Hx3 Hy3
      generalize (keysD sa).getD q ⟨#[]⟩ = k at *
      go_wp2_with fail
      refine (read_dev (HA.out.below Hb13.out) k hks (Oa.out.bnow.get _)).mono ?_
      rintro e w4 ⟨v1, rfl, ho1, hb4⟩
      have cx4 := cell_of_below hb4 cx
      have cy4 := cell_of_below hb4 cy
      have Hr1 := Lib.hid (Rd.own ho1)
      have Hb4 := Lib.hid (below_trans Hb3.out hb4)
      have Hb14 := Lib.hid (below_trans Hb13.out hb4)
      clear ho1 hb4 cx cy
      go_wp2_with fail
      refine (read_dev (HB.out.below Hb14.out) k hks (Ob.out.bnow.get _)).mono ?_
      rintro e w5 ⟨v2, rfl, ho2, hb5⟩
      have cx5 := cell_of_below hb5 cx4
      have cy5 := cell_of_below hb5 cy4
      have s1 := fun n => run_string (U8.below (below_drewN' (Below.refl _ _) n) _ _ (U8.below hb5 _ _ Hr1.out))
      have s2 := fun n => run_string (U8.below (below_drewN' (Below.refl _ _) n) _ _ (Rd.own ho2))
      have Hb5 := Lib.hid (below_trans Hb4.out hb5)
      rw [T2.out]
      rw [T3.out] at s1
      clear ho2 hb5 cx4 cy4 Hr1
      generalize (sb.read k).2 = r at *
      generalize strOfNums (sb.read k).1 = st at *
      have hq0 : (0 : Int) ≤ (q : Int) := by omega
      have hql : (q : Int) < ((keysD sa).length : Int) := by omega
      go_wp2
      go_quiet (fail)
      have hbq := below_drewN' Hb5.out nq
      generalize w5.drewN nq = w6 at *
      have HB6 := Lib.hid hbq
      clear hbq s1 s2 cx5 cy5
      go_wp2
      exact ⟨⟨q + 1, by omega, by go_num, HB6.out⟩, by simp [intOf]; omega⟩
    · go_wp2
      go_ret
      exact ⟨rfl, below_trans Hb2.out Hb3.out⟩
end Go.Proofs.Ytjcjgeneehhgbaa.Dev
