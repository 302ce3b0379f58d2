/-
  DeviceFull, walked: the law's function returns true and writes nothing elder.
-/
import Derived.Test.YtjcjgeneehhgbaaDevP
import Derived.Test.YtjcjgeneehhgbaaSepL
import Derived.Lib.SlBytesConst
import Derived.Test.YtjcjgeneehhgbaaLTorn
namespace Go.Proofs.Ytjcjgeneehhgbaa.Dev
open Go.RowKit Go.Proofs
set_option linter.unusedVariables false
set_option linter.unusedSectionVars false
set_option linter.unusedSimpArgs false
variable [Bs]

def fN (j : Nat) : ByteArray := strOfNums [102, 97 + ((j / 16 : Nat) : Int), 97 + ((j % 16 : Nat) : Int)]
abbrev kG : ByteArray := ⟨#[103]⟩
theorem fN_valid {j : Nat} (h : j < 256) : valid (fN j) = true := by
  have h1 : ((List.range 256).all fun j => valid (fN j)) = true := by kernel_rfl
  exact List.all_eq_true.1 h1 j (List.mem_range.2 h)
theorem fN_size (j : Nat) : (fN j).size = 3 := by rw [fN, strOfNums_size]; rfl
theorem fN_inj {i j : Nat} (hi : i < 256) (hj : j < 256) (h : fN i = fN j) : i = j := by
  have h1 : (fN i).data.toList = (fN j).data.toList := by rw [h]
  simp only [fN, strOfNums_data, List.map_cons, List.map_nil, List.cons.injEq, and_true] at h1
  obtain ⟨_, h2, h3⟩ := h1
  have e : ∀ a : Nat, (97 + (a : Int)).toNat = 97 + a := fun a => by omega
  rw [e, e] at h2 h3
  have h2' := congrArg UInt8.toNat h2
  have h3' := congrArg UInt8.toNat h3
  simp only [UInt8.toNat_ofNat'] at h2' h3'
  omega
theorem fN_ne (j : Nat) : fN j ≠ kG := fun h => by
  have := congrArg ByteArray.size h
  rw [fN_size] at this
  exact absurd this (by decide)
def fS (n : Nat) : FS := (List.range n).map fun j => (fN j, [])
def fP (n : Nat) : List Op := (List.range n).map fun j => ⟨1, fN j, ⟨#[]⟩, []⟩
def fD (n : Nat) : DS := ⟨[], fS n, fP n, 0, false⟩
theorem FS.get_none {k : ByteArray} : ∀ {l : FS}, (∀ p ∈ l, p.1 ≠ k) → l.get k = none
  | [], _ => rfl
  | p :: l, h => by
    have h1 := h p List.mem_cons_self
    simp only [FS.get, h1, if_false]
    exact FS.get_none fun q hq => h q (List.mem_cons_of_mem _ hq)
theorem FS.put_none {k : ByteArray} {v : List Int} : ∀ {l : FS}, l.get k = none → l.put k v = l ++ [(k, v)]
  | [], _ => rfl
  | p :: l, h => by
    by_cases hp : p.1 = k
    · simp [FS.get, hp] at h
    · simp only [FS.get, hp, if_false] at h
      simp only [FS.put, hp, if_false, List.cons_append, FS.put_none h]
theorem FS.put_keys {k : ByteArray} {v : List Int} : ∀ {l : FS}, (l.get k).isSome = true → (l.put k v).map (·.1) = l.map (·.1)
  | [], h => by simp [FS.get] at h
  | p :: l, h => by
    by_cases hp : p.1 = k
    · simp [FS.put, hp]
    · simp only [FS.get, hp, if_false] at h
      simp [FS.put, hp, FS.put_keys h]
theorem FS.get_del_same {k : ByteArray} : ∀ {l : FS}, (l.map (·.1)).Nodup → (l.del k).get k = none
  | [], _ => rfl
  | p :: l, h => by
    simp only [List.map_cons, List.nodup_cons] at h
    by_cases hp : p.1 = k
    · simp only [FS.del, hp, if_true]
      exact FS.get_none fun q hq e => h.1 (by rw [hp, ← e]; exact List.mem_map_of_mem hq)
    · simp only [FS.del, hp, if_false, FS.get]
      exact FS.get_del_same h.2
theorem fS_keys (n : Nat) : (fS n).map (·.1) = (List.range n).map fN := by simp [fS]
theorem fS_nodup {n : Nat} (h : n ≤ 256) : ((fS n).map (·.1)).Nodup := by
  rw [fS_keys]
  refine List.Pairwise.map fN (R := fun i j => i < n ∧ j < n ∧ i ≠ j) (fun i j hij e => hij.2.2 (fN_inj (by omega) (by omega) e)) ?_
  refine List.Pairwise.imp_of_mem ?_ (List.nodup_range (n := n))
  intro a b ha hb hab
  exact ⟨List.mem_range.1 ha, List.mem_range.1 hb, hab⟩
theorem fS_get {n j : Nat} (hn : n ≤ 256) (hj : j < 256) (h : n ≤ j) : (fS n).get (fN j) = none := by
  refine FS.get_none fun p hp e => ?_
  obtain ⟨i, hi, rfl⟩ := List.mem_map.1 hp
  have hi' := List.mem_range.1 hi
  have := fN_inj (by omega) hj e
  omega
theorem fS_getG (n : Nat) : (fS n).get kG = none := by
  refine FS.get_none fun p hp e => ?_
  obtain ⟨i, hi, rfl⟩ := List.mem_map.1 hp
  exact fN_ne i e
theorem fS_len (n : Nat) : (fS n).length = n := by simp [fS]
theorem fS_succ (n : Nat) : fS (n + 1) = fS n ++ [(fN n, [])] := by simp [fS, List.range_succ]
theorem fP_succ (n : Nat) : fP (n + 1) = fP n ++ [⟨1, fN n, ⟨#[]⟩, []⟩] := by simp [fP, List.range_succ]
theorem fP_len (n : Nat) : (fP n).length = n := by simp [fP]
theorem fS_mem {n j : Nat} (h : j < n) : ((fS n).get (fN j)).isSome = true := by
  have : ∀ {l : FS} {k : ByteArray}, k ∈ l.map (·.1) → (l.get k).isSome = true := by
    intro l k hk
    cases hg : l.get k with
    | some v => rfl
    | none =>
      exfalso
      induction l with
      | nil => cases hk
      | cons p l ih =>
        by_cases hp : p.1 = k
        · simp [FS.get, hp] at hg
        · simp only [FS.get, hp, if_false] at hg
          refine ih ?_ hg
          rcases List.mem_cons.1 hk with e | e
          · exact absurd e.symm hp
          · exact e
  refine this ?_
  rw [fS_keys]
  exact List.mem_map_of_mem (List.mem_range.2 h)
theorem chk_free {fs : FS} {k : ByteArray} (h : valid k = true) : chk false false fs [k] = 0 := by simp [chk, h]
theorem chk_need {fs : FS} {k : ByteArray} (h : valid k = true) : chk false true fs [k] = if (fs.get k).isSome then 0 else 301 := by
  cases hg : fs.get k <;> simp [chk, h, hg]
theorem fD_step {n : Nat} (h : n < 256) : (fD n).create (fN n) [] = (fD (n + 1), 0) := by
  have h1 : chk (fD n).down false (fD n).now [fN n] = 0 := chk_free (fN_valid h)
  rw [create_ok h1 (by simp) (by show (fS n).length < 256; rw [fS_len]; exact h), perform_zero rfl]
  have h2 : app (fD n).now ⟨1, fN n, ⟨#[]⟩, []⟩ = fS (n + 1) := by
    show (fS n).put (fN n) [] = _
    rw [FS.put_none (fS_get (by omega) h (Nat.le_refl _)), fS_succ]
  have h3 : (fD n).pend ++ [⟨1, fN n, ⟨#[]⟩, []⟩] = fP (n + 1) := (fP_succ n).symm
  rw [h2, h3]
  rfl
theorem fD_ok : ∀ {n : Nat}, n ≤ 256 → (fD n).Ok
  | 0, _ => DS.ok_new
  | n + 1, h => by
    have h1 := (fD_ok (n := n) (by omega)).create (fN n) []
    rw [fD_step (by omega)] at h1
    exact h1
theorem create_full {d : DS} {k : ByteArray} {b : List Int} (hd : d.down = false) (hv : valid k = true) (hg : d.now.get k = none) (hl : 256 ≤ d.now.length) : d.create k b = (d, 302) := by
  have hc : chk d.down false d.now [k] = 0 := by rw [hd]; exact chk_free hv
  unfold DS.create
  rw [hc, if_pos rfl, if_pos (.inr ⟨by rw [hg]; rfl, hl⟩)]
theorem create_put {d : DS} {k : ByteArray} {b : List Int} (hd : d.down = false) (h0 : d.fuse = 0) (hv : valid k = true) (hb : b.length ≤ 4194304) (hl : (d.now.get k).isSome = true ∨ d.now.length < 256) :
    d.create k b = ({ d with now := d.now.put k b, pend := d.pend ++ [⟨1, k, ⟨#[]⟩, b⟩] }, 0) := by
  have hc : chk d.down false d.now [k] = 0 := by rw [hd]; exact chk_free hv
  unfold DS.create
  rw [hc, if_pos rfl, if_neg (by
    rintro (h | ⟨h1, h2⟩)
    · omega
    · rcases hl with h | h
      · rw [h1] at h; cases h
      · omega), perform_zero h0]
  rfl
theorem full_plain {n : Nat} (h : n < 256) : ∃ sB sC sE, (fD 256).create kG [] = (fD 256, 302) ∧ (fD 256).create (fN n) [120] = (sB, 0) ∧ sB.append kG [] = (sB, 301) ∧ sB.delete (fN n) = (sC, 0) ∧ sC.create kG [] = (sE, 0) ∧ sE.create (fN n) [] = (sE, 302) ∧
    sE.now.length = 256 ∧ sB.Ok ∧ sC.Ok ∧ sE.Ok ∧ sB.pend.length ≤ 1000 ∧ sC.pend.length ≤ 1000 ∧ sE.pend.length ≤ 1000 := by
  have hG : valid kG = true := by kernel_rfl
  have hv := fN_valid h
  have hok := fD_ok (Nat.le_refl 256)
  have e1 : (fD 256).create kG [] = (fD 256, 302) := create_full rfl hG (fS_getG 256) (by show 256 ≤ (fS 256).length; rw [fS_len]; exact Nat.le_refl _)
  have hs : ((fS 256).get (fN n)).isSome = true := fS_mem h
  have e2 := create_put (d := fD 256) (k := fN n) (b := [120]) rfl rfl hv (by simp) (.inl hs)
  have hokB := hok.create (fN n) [120]
  rw [e2] at hokB
  generalize hsB : ({ (fD 256) with now := (fD 256).now.put (fN n) [120], pend := (fD 256).pend ++ [⟨1, fN n, ⟨#[]⟩, [120]⟩] } : DS) = sB at *
  have nB : sB.now = (fS 256).put (fN n) [120] := by rw [← hsB]; rfl
  have pB : sB.pend.length = 257 := by rw [← hsB]; show ((fP 256) ++ [_]).length = 257; rw [List.length_append, fP_len]; rfl
  have dB : sB.down = false := by rw [← hsB]; rfl
  have fB : sB.fuse = 0 := by rw [← hsB]; rfl
  have lB : sB.now.length = 256 := by rw [nB, FS.put_len, if_pos hs, fS_len]
  have gB : sB.now.get kG = none := by rw [nB, FS.get_put_ne (Ne.symm (fN_ne n)), fS_getG]
  have sBs : (sB.now.get (fN n)).isSome = true := by rw [nB, FS.get_put_same]; rfl
  have kB : (sB.now.map (·.1)).Nodup := by rw [nB, FS.put_keys hs]; exact fS_nodup (Nat.le_refl _)
  have e3 : sB.append kG [] = (sB, 301) := by
    have hc : chk sB.down true sB.now [kG] = 301 := by rw [dB, chk_need hG, gB]; rfl
    unfold DS.append
    rw [hc]
    rfl
  have e4 : sB.delete (fN n) = ({ sB with now := sB.now.del (fN n), pend := sB.pend ++ [⟨4, fN n, ⟨#[]⟩, []⟩] }, 0) := by
    have hc : chk sB.down true sB.now [fN n] = 0 := by rw [dB, chk_need hv, sBs]; rfl
    unfold DS.delete
    rw [hc, if_pos rfl, perform_zero fB]
    rfl
  have hokC := hokB.delete (fN n)
  rw [e4] at hokC
  generalize hsC : ({ sB with now := sB.now.del (fN n), pend := sB.pend ++ [⟨4, fN n, ⟨#[]⟩, []⟩] } : DS) = sC at *
  have nC : sC.now = sB.now.del (fN n) := by rw [← hsC]
  have pC : sC.pend.length = 258 := by rw [← hsC]; show (sB.pend ++ [_]).length = 258; rw [List.length_append, pB]; rfl
  have dC : sC.down = false := by rw [← hsC]; exact dB
  have fC : sC.fuse = 0 := by rw [← hsC]; exact fB
  have lC : sC.now.length = 255 := by rw [nC, FS.del_len, if_pos sBs, lB]
  have gC : sC.now.get (fN n) = none := by rw [nC]; exact FS.get_del_same kB
  have gCG : sC.now.get kG = none := by rw [nC, FS.get_del_ne (Ne.symm (fN_ne n)), gB]
  have e5 := create_put (d := sC) (k := kG) (b := []) dC fC hG (by simp) (.inr (by omega))
  have hokE := hokC.create kG []
  rw [e5] at hokE
  generalize hsE : ({ sC with now := sC.now.put kG [], pend := sC.pend ++ [⟨1, kG, ⟨#[]⟩, []⟩] } : DS) = sE at *
  have nE : sE.now = sC.now.put kG [] := by rw [← hsE]
  have pE : sE.pend.length = 259 := by rw [← hsE]; show (sC.pend ++ [_]).length = 259; rw [List.length_append, pC]; rfl
  have dE : sE.down = false := by rw [← hsE]; exact dC
  have lE : sE.now.length = 256 := by rw [nE, FS.put_len, gCG]; simp [lC]
  have gE : sE.now.get (fN n) = none := by rw [nE, FS.get_put_ne (fN_ne n), gC]
  exact ⟨sB, sC, sE, e1, e2, e3, e4, e5, create_full dE hv gE (by omega), lE, hokB, hokC, hokE, by omega, by omega, by omega⟩
theorem names_N {w0 w : World} {d : Nat} {st : DS} (h : DevN w0 w d st) (hn : st.now.length ≤ 1000000) :
    Calls Try.prog 35 #[.pointer (some ⟨d, 0, none⟩)] w fun e w' => ∃ v, e = .returned v ∧ RdS w' v (sortK (st.now.map (·.1))) ∧ DevN w0 w' d st ∧ U8 w w' := by
  have h' := h
  obtain ⟨S, h1, _⟩ := h'
  refine (names_dev h1 hn).mono ?_
  rintro e w' ⟨v, rfl, hv, hb⟩
  exact ⟨v, rfl, hv, h.below hb⟩
theorem Bnd.small {l : FS} (h : Bnd l) : l.length ≤ 1000000 := by have := h.n; omega
theorem fN_big (j : Nat) : (fN j).size ≤ 9223372036854775807 := by rw [fN_size]; omega

set_option maxHeartbeats 4000000 in
set_option maxRecDepth 100000 in
theorem full_walk {w : World} (hB : Bs.n = w.heap.size) (n : Int) (hn : -9223372036854775808 ≤ n ∧ n ≤ 9223372036854775807) :
    Calls Try.prog 8 #[.int .i64 n] w fun e w' => e = .returned (.bool true) ∧ Below w.heap.size w w' := by
  have hBe : Bs.n ≤ w.heap.size := Nat.le_of_eq hB
  have Hn := Lib.hid hn
  clear hn
  go_enter Try.func8, Try.ntmps8
  go_wp2_with fail
  refine (new_N w hBe).mono ?_
  rintro e w1 ⟨d, rfl, hN, hu⟩
  have HN1 := Lib.hid hN
  have hle1 : Bs.n ≤ w1.heap.size := by obtain ⟨_, _, _, h⟩ := hN; exact Nat.le_trans hBe h.size
  clear hN hu
  go_wp2_with fail
  refine (known_calls w1 hle1).mono ?_
  rintro e w2 ⟨rfl, hb⟩
  have HN2 := Lib.hid (HN1.out.below hb).1
  clear hb HN1
  go_wp2
  go_loopw [4] (fun i wr => ∃ q : Nat, q ≤ 256 ∧ i = .int .i64 q ∧ DevN w wr d (fD q)) (fun i _ => 256 - (intOf i).toNat)
  case atStart => exact ⟨0, by omega, rfl, HN2.out⟩
  case round =>
    obtain ⟨q, hq, rfl, hN⟩ := hrel
    have HN := Lib.hid hN
    clear hN HN2
    by_cases hlt : q < 256
    · have hb1 : Below wr.heap.size wr (wr.alloc (.cells #[Value.int .u8 102, Value.int .u8 (97 + (q : Int) / 16), Value.int .u8 (97 + (q : Int) % 16)] 5)) := (Below.refl _ _).alloc (Nat.le_refl _) _
      have hx : Rd (wr.alloc (.cells #[Value.int .u8 102, Value.int .u8 (97 + (q : Int) / 16), Value.int .u8 (97 + (q : Int) % 16)] 5)) (.slice (some ⟨wr.heap.size, 0, none⟩) 3 3) [102, 97 + (q : Int) / 16, 97 + (q : Int) % 16] := rd_lit (heap_alloc_new wr _) rfl rfl (by omega)
      have s1 := run_string hx
      rw [show strOfNums [102, 97 + (q : Int) / 16, 97 + (q : Int) % 16] = fN q from rfl] at s1
      have HB1 := Lib.hid hb1
      have Hst := Lib.hid (fD_step hlt)
      have Hok := Lib.hid (fD_ok hq)
      clear hb1 hx
      go_wp2_with fail
      refine (create_N (HN.out.below HB1.out).1 Hst.out (Hok.out.fuel (by show (fP q).length ≤ 100000; rw [fP_len]; omega)) (Rd.nil _) (fN_big q) (by decide) (Hok.out.bnow.get _) Hok.out.bnow.small).mono ?_
      rintro e w3 ⟨rfl, hN, hu⟩
      have HN3 := Lib.hid hN
      clear hN hu s1
      go_wp2
      exact ⟨⟨q + 1, by omega, by go_num, HN3.out⟩, by simp [intOf]; omega⟩
    · have hq : q = 256 := by omega
      subst hq
      clear hlt
      go_wp2_with fail
      refine (fold_calls wr Hn.out (by decide)).mono ?_
      rintro e _ ⟨rfl, rfl⟩
      have hr := fold_range n (n := 256) (by omega)
      obtain ⟨q, hq⟩ : ∃ q : Nat, fold n 256 = (q : Int) := ⟨(fold n 256).toNat, by omega⟩
      rw [hq] at hr ⊢
      have hlt : q < 256 := by omega
      clear hq hr Hn
      obtain ⟨sB, sC, sE, p1, p2, p3, p4, p5, p6, p7, okB, okC, okE, lB, lC, lE⟩ := full_plain hlt
      have P1 := Lib.hid p1
      have P2 := Lib.hid p2
      have P3 := Lib.hid p3
      have P4 := Lib.hid p4
      have P5 := Lib.hid p5
      have P6 := Lib.hid p6
      have P7 := Lib.hid p7
      have OkA := Lib.hid (fD_ok (Nat.le_refl 256))
      have OkB := Lib.hid okB
      have OkC := Lib.hid okC
      have OkE := Lib.hid okE
      have LA : Hid ((fD 256).pend.length ≤ 100000) := Lib.hid (by show (fP 256).length ≤ 100000; rw [fP_len]; omega)
      have LB := Lib.hid lB
      have LC := Lib.hid lC
      have LE := Lib.hid lE
      clear p1 p2 p3 p4 p5 p6 p7 okB okC okE lB lC lE
      have hb1 : Below wr.heap.size wr (wr.alloc (.cells #[Value.int .u8 102, Value.int .u8 (97 + (q : Int) / 16), Value.int .u8 (97 + (q : Int) % 16)] 5)) := (Below.refl _ _).alloc (Nat.le_refl _) _
      have hx : Rd (wr.alloc (.cells #[Value.int .u8 102, Value.int .u8 (97 + (q : Int) / 16), Value.int .u8 (97 + (q : Int) % 16)] 5)) (.slice (some ⟨wr.heap.size, 0, none⟩) 3 3) [102, 97 + (q : Int) / 16, 97 + (q : Int) % 16] := rd_lit (heap_alloc_new wr _) rfl rfl (by omega)
      have s1 := run_string hx
      rw [show strOfNums [102, 97 + (q : Int) / 16, 97 + (q : Int) % 16] = fN q from rfl] at s1
      have HB1 := Lib.hid hb1
      clear hb1 hx
      go_wp2_with fail
      clear s1
      refine (create_N (HN.out.below HB1.out).1 P1.out (OkA.out.fuel LA.out) (Rd.nil _) (leb (by kernel_rfl)) (by decide) (OkA.out.bnow.get _) OkA.out.bnow.small).mono ?_
      rintro e w3 ⟨rfl, hN, hu⟩
      have HN3 := Lib.hid hN
      clear hN hu HN HB1
      have hone := fN_big q
      generalize fN q = one at *
      have kc := fun w C n c => Lib.run_convert_bytes_const (P := Try.prog) w 22 5 C n c Try.underlying22 Try.underlying5
      go_wp2_with fail
      refine (create_N (HN3.out.below (lit_below w3 _ (Nat.le_refl _) _)).1 P2.out (OkA.out.fuel LA.out) (rd_lit (heap_alloc_new w3 _) rfl rfl (by decide)) hone (by decide) (OkA.out.bnow.get _) OkA.out.bnow.small).mono ?_
      rintro e w4 ⟨rfl, hN, hu⟩
      have HN4 := Lib.hid hN
      clear hN hu HN3
      go_wp2_with fail
      refine (append_N HN4.out P3.out (OkB.out.fuel (by have := LB.out; omega)) (Rd.nil _) (leb (by kernel_rfl)) (by decide) (OkB.out.bnow.get _)).mono ?_
      rintro e w5 ⟨rfl, hN, hu⟩
      have HN5 := Lib.hid hN
      clear hN hu HN4
      go_wp2_with fail
      refine (delete_N HN5.out P4.out (OkB.out.fuel (by have := LB.out; omega)) hone (OkB.out.bnow.get _)).mono ?_
      rintro e w6 ⟨rfl, hN, hu⟩
      have HN6 := Lib.hid hN
      clear hN hu HN5
      go_wp2_with fail
      refine (create_N HN6.out P5.out (OkC.out.fuel (by have := LC.out; omega)) (Rd.nil _) (leb (by kernel_rfl)) (by decide) (OkC.out.bnow.get _) OkC.out.bnow.small).mono ?_
      rintro e w7 ⟨rfl, hN, hu⟩
      have HN7 := Lib.hid hN
      clear hN hu HN6
      go_wp2_with fail
      refine (create_N HN7.out P6.out (OkE.out.fuel (by have := LE.out; omega)) (Rd.nil _) hone (by decide) (OkE.out.bnow.get _) OkE.out.bnow.small).mono ?_
      rintro e w8 ⟨rfl, hN, hu⟩
      have HN8 := Lib.hid hN
      clear hN hu HN7
      go_wp2_with fail
      refine (names_N HN8.out OkE.out.bnow.small).mono ?_
      rintro e w9 ⟨v, rfl, hv, hN, hu⟩
      have HN9 := Lib.hid hN
      obtain ⟨a, c, rfl, _⟩ := hv
      have hl : (sortK (sE.now.map (·.1))).length = 256 := by rw [sortK_len, List.length_map, P7.out]
      clear hN hu HN8
      go_wp2
      go_ret
      obtain ⟨_, _, _, h⟩ := HN9.out
      exact ⟨rfl, h⟩
end Go.Proofs.Ytjcjgeneehhgbaa.Dev
