/-
  Package crash: At.
-/
import Derived.Test.YthekilgolelomaaLb
set_option linter.unusedSimpArgs false
set_option linter.unusedVariables false
namespace Go.Proofs.Ythekilgolelomaa
open Go.RowKit Go.Fl

def chD (T : Nat → List Nat) (dir : Nat) : Nat := (chM (T dir) 1).getD 0
/-- Behind how many changes a fate stands, and its number there. -/
def atM (T : Nat → List Nat) : Nat → Nat → Nat → Nat × Nat
  | 0, dir, i => (dir, i)
  | f + 1, dir, i => if i < chD T dir then (dir, i) else atM T f (dir + 1) (i - chD T dir)
theorem upM_succ {T : Nat → List Nat} {d a b : Nat} (h : upM T d = some a) (h2 : upM T (d + 1) = some b) : chM (T d) 1 = some (chD T d) ∧ b = a + chD T d := by
  unfold upM at h2
  rw [h] at h2
  dsimp only at h2
  unfold chD
  cases hc : chM (T d) 1 with
  | none => rw [hc] at h2; cases h2
  | some m =>
    rw [hc] at h2
    dsimp only at h2
    split at h2
    · cases h2
    · injection h2 with h2
      exact ⟨rfl, h2.symm⟩
theorem upM_some {T : Nat → List Nat} {i j n : Nat} (h : upM T j = some n) (hij : i ≤ j) : ∃ a, upM T i = some a := by
  cases hu : upM T i with
  | some a => exact ⟨a, rfl⟩
  | none => rw [upM_none hu hij] at h; cases h
theorem upM_mono {T : Nat → List Nat} {i j a n : Nat} (h : upM T j = some n) (hij : i ≤ j) (hi : upM T i = some a) : a ≤ n := by
  induction j generalizing n with
  | zero =>
    rw [show i = 0 by omega] at hi
    rw [h] at hi
    injection hi with hi
    omega
  | succ j ih =>
    by_cases e : i = j + 1
    · subst e
      rw [h] at hi
      injection hi with hi
      omega
    · obtain ⟨b, hb⟩ := upM_some h (show j ≤ j + 1 by omega)
      have := ih hb (by omega)
      have := (upM_succ hb h).2
      omega
theorem ks_far {w w' : World} {kv : Value} {ds : List Nat} {S : List Nat} (h : KS w kv (kjs ds)) (ho : Only S w w') (hS : ∀ g, kv.ownBlock = some g → g ∉ S) : KS w' kv (kjs ds) :=
  ⟨h.1.only ho fun _ g hg _ => hS g hg, fun x hx => by
    obtain ⟨y, _, rfl⟩ := List.mem_map.1 hx
    exact Sr.nil _ _⟩
section
variable {w w' : World} {F G : Nat → Prop} {d : Nat} {p p' : PD} {fs : Nat → FD} {ids : Nat → Prop}
set_option maxRecDepth 100000 in
set_option maxHeartbeats 1600000 in
theorem at_none (h0 : DK w F d p fs ids) (hpl : p.pend.length ≤ 1048576) (hw : waysM p fs = none) (i : Int) : Calls Try.prog 39 #[cp d, iv i] w fun e w' => e = .returned (.tuple #[.agg #[iv 0, .slice none 0 0], iv 9]) ∧ Only [] w w' := by
  have HW := Lib.hid (ways_ok (h0.only0 ((Only.refl [] w).alloc (.cells #[iv 0, .slice none 0 0] 33))) hpl)
  rw [hw] at HW
  simp only [Option.getD_none, Option.isSome_none] at HW
  clear h0 hpl hw
  go_enter Try.func39, Try.ntmps39
  go_wp2_with fail
  refine HW.out.mono ?_
  rintro e w1 ⟨rfl, ho⟩
  have HR := Lib.hid ((Blk.new w 33 #[iv 0, .slice none 0 0]).only ho (by simp))
  have HO := Lib.hid (((Only.refl [] w).alloc (.cells #[iv 0, .slice none 0 0] 33)).trans ho)
  obtain ⟨rb, hrb⟩ : ∃ rb, w.heap.size = rb := ⟨_, rfl⟩
  have HRB := Lib.hid hrb
  rw [hrb] at HR ⊢
  have r0 := HR.out.cell 0
  have r1 := HR.out.cell 1
  have rl := HR.out.lt
  have rf := HR.out.frozen
  simp at r0 r1
  clear ho hrb HW
  have HBR := Lib.hid (show Blk ((w1.setCell ⟨rb, 0, none⟩ (iv 0)).setCell ⟨rb, 1, none⟩ (.slice none 0 0)) rb 33 #[iv 0, .slice none 0 0] from by
    have := (HR.out.set_ 0 (iv 0)).set_ 1 (.slice none 0 0)
    simpa using this)
  have HWO := Lib.hid (show Only [] w ((w1.setCell ⟨rb, 0, none⟩ (iv 0)).setCell ⟨rb, 1, none⟩ (.slice none 0 0)) from (HO.out.setCell (.inr (by have := HRB.out; show w.heap.size ≤ rb; omega)) _).setCell (.inr (by have := HRB.out; show w.heap.size ≤ rb; omega)) _)
  go_wp2
  exact bodyPost_ret (results2 rfl (res_blk (cs := [iv 0, .slice none 0 0]) Try.underlying33 (by kernel_rfl) rfl HBR.out) (res_tmp rfl)) rfl ⟨rfl, HWO.out⟩
set_option maxRecDepth 100000 in
set_option maxHeartbeats 1600000 in
theorem at_out (h0 : DK w F d p fs ids) (hpl : p.pend.length ≤ 1048576) {n : Nat} (hw : waysM p fs = some n) (i : Int) (hi : i < 0 ∨ (n : Int) ≤ i) : Calls Try.prog 39 #[cp d, iv i] w fun e w' => e = .returned (.tuple #[.agg #[iv 0, .slice none 0 0], iv 8]) ∧ Only [] w w' := by
  have HW := Lib.hid (ways_ok (h0.only0 ((Only.refl [] w).alloc (.cells #[iv 0, .slice none 0 0] 33))) hpl)
  rw [hw] at HW
  simp only [Option.getD_some, Option.isSome_some] at HW
  clear h0 hpl hw
  by_cases h1 : i < 0
  · clear hi
    go_enter Try.func39, Try.ntmps39
    go_wp2_with fail
    refine HW.out.mono ?_
    rintro e w1 ⟨rfl, ho⟩
    have HR := Lib.hid ((Blk.new w 33 #[iv 0, .slice none 0 0]).only ho (by simp))
    have HO := Lib.hid (((Only.refl [] w).alloc (.cells #[iv 0, .slice none 0 0] 33)).trans ho)
    obtain ⟨rb, hrb⟩ : ∃ rb, w.heap.size = rb := ⟨_, rfl⟩
    have HRB := Lib.hid hrb
    rw [hrb] at HR ⊢
    have r0 := HR.out.cell 0
    have r1 := HR.out.cell 1
    have rl := HR.out.lt
    have rf := HR.out.frozen
    simp at r0 r1
    clear ho hrb HW
    have HBR := Lib.hid (show Blk ((w1.setCell ⟨rb, 0, none⟩ (iv 0)).setCell ⟨rb, 1, none⟩ (.slice none 0 0)) rb 33 #[iv 0, .slice none 0 0] from by
      have := (HR.out.set_ 0 (iv 0)).set_ 1 (.slice none 0 0)
      simpa using this)
    have HWO := Lib.hid (show Only [] w ((w1.setCell ⟨rb, 0, none⟩ (iv 0)).setCell ⟨rb, 1, none⟩ (.slice none 0 0)) from (HO.out.setCell (.inr (by have := HRB.out; show w.heap.size ≤ rb; omega)) _).setCell (.inr (by have := HRB.out; show w.heap.size ≤ rb; omega)) _)
    go_wp2
    exact bodyPost_ret (results2 rfl (res_blk (cs := [iv 0, .slice none 0 0]) Try.underlying33 (by kernel_rfl) rfl HBR.out) (res_tmp rfl)) rfl ⟨rfl, HWO.out⟩
  · have h2 : (n : Int) ≤ i := hi.resolve_left h1
    clear hi
    go_enter Try.func39, Try.ntmps39
    go_wp2_with fail
    refine HW.out.mono ?_
    rintro e w1 ⟨rfl, ho⟩
    have HR := Lib.hid ((Blk.new w 33 #[iv 0, .slice none 0 0]).only ho (by simp))
    have HO := Lib.hid (((Only.refl [] w).alloc (.cells #[iv 0, .slice none 0 0] 33)).trans ho)
    obtain ⟨rb, hrb⟩ : ∃ rb, w.heap.size = rb := ⟨_, rfl⟩
    have HRB := Lib.hid hrb
    rw [hrb] at HR ⊢
    have r0 := HR.out.cell 0
    have r1 := HR.out.cell 1
    have rl := HR.out.lt
    have rf := HR.out.frozen
    simp at r0 r1
    clear ho hrb HW
    have HBR := Lib.hid (show Blk ((w1.setCell ⟨rb, 0, none⟩ (iv 0)).setCell ⟨rb, 1, none⟩ (.slice none 0 0)) rb 33 #[iv 0, .slice none 0 0] from by
      have := (HR.out.set_ 0 (iv 0)).set_ 1 (.slice none 0 0)
      simpa using this)
    have HWO := Lib.hid (show Only [] w ((w1.setCell ⟨rb, 0, none⟩ (iv 0)).setCell ⟨rb, 1, none⟩ (.slice none 0 0)) from (HO.out.setCell (.inr (by have := HRB.out; show w.heap.size ≤ rb; omega)) _).setCell (.inr (by have := HRB.out; show w.heap.size ≤ rb; omega)) _)
    go_wp2
    exact bodyPost_ret (results2 rfl (res_blk (cs := [iv 0, .slice none 0 0]) Try.underlying33 (by kernel_rfl) rfl HBR.out) (res_tmp rfl)) rfl ⟨rfl, HWO.out⟩
set_option maxRecDepth 100000 in
set_option maxHeartbeats 3200000 in
theorem at_in (h0 : DK w F d p fs ids) (hpl : p.pend.length ≤ 1048576) {n : Nat} (hw : waysM p fs = some n) (i : Nat) (hi : i < n) : Calls Try.prog 39 #[cp d, iv i] w fun e w' =>
    ∃ kv, e = .returned (.tuple #[.agg #[iv (atM (tailsM p fs) (p.pend.length + 1) 0 i).1, kv], iv 0]) ∧ KS w' kv (kjs (digM (tailsM p fs (atM (tailsM p fs) (p.pend.length + 1) 0 i).1) (atM (tailsM p fs) (p.pend.length + 1) 0 i).2).1) ∧ Only [] w w' ∧ ∀ g, kv.ownBlock = some g → w.heap.size ≤ g := by
  have HW := Lib.hid (ways_ok (h0.only0 ((Only.refl [] w).alloc (.cells #[iv 0, .slice none 0 0] 33))) hpl)
  have HWY := Lib.hid (show upM (tailsM p fs) (p.pend.length + 1) = some n from hw)
  rw [hw] at HW
  simp only [Option.getD_some, Option.isSome_some] at HW
  have HNM := Lib.hid (upM_le HWY.out)
  have H := Lib.hid h0
  have HPL := Lib.hid hpl
  have HI := Lib.hid hi
  have hi1 : decide ((i : Int) < 0) = false := decide_eq_false (Int.not_lt.2 (Int.natCast_nonneg _))
  have hi2 : decide (n ≤ i) = false := decide_eq_false (by omega)
  obtain ⟨R, hR⟩ : ∃ R, atM (tailsM p fs) (p.pend.length + 1) 0 i = R := ⟨_, rfl⟩
  have HRR := Lib.hid hR
  rw [hR]
  clear h0 hpl hw hi hR
  go_enter Try.func39, Try.ntmps39
  go_wp2_with fail
  refine HW.out.mono ?_
  rintro e w1 ⟨rfl, ho⟩
  have HR := Lib.hid ((Blk.new w 33 #[iv 0, .slice none 0 0]).only ho (by simp))
  have HO := Lib.hid (((Only.refl [] w).alloc (.cells #[iv 0, .slice none 0 0] 33)).trans ho)
  obtain ⟨rb, hrb⟩ : ∃ rb, w.heap.size = rb := ⟨_, rfl⟩
  have HRB := Lib.hid hrb
  rw [hrb] at HR ⊢
  have r0 := HR.out.cell 0
  have r1 := HR.out.cell 1
  have rl := HR.out.lt
  have rf := HR.out.frozen
  simp at r0 r1
  clear ho hrb HW
  go_wp2
  (try simp only [hi1, hi2])
  go_loopw [1, 8] (fun z1 z8 wr => ∃ (j dir a : Nat), z1 = .int .i64 j ∧ z8 = .int .i64 dir ∧ Hid (dir ≤ p.pend.length) ∧ Hid (upM (tailsM p fs) dir = some a ∧ a + j = i) ∧ Hid (atM (tailsM p fs) (p.pend.length + 1 - dir) dir j = R) ∧ Hid (Blk wr rb 33 #[iv 0, .slice none 0 0]) ∧ Hid (Only [] w wr)) (fun _ z8 _ => p.pend.length + 1 - (intOf z8).toNat)
  case atStart => exact ⟨i, 0, 0, rfl, rfl, Lib.hid (Nat.zero_le _), Lib.hid ⟨rfl, Nat.zero_add _⟩, HRR, HR, HO⟩
  clear HR HO r0 r1 rl rf hi1 hi2
  case round =>
    obtain ⟨j, dir, a, rfl, rfl, HK, HU, HA, HR, HO⟩ := hrel
    have HTL := Lib.hid (tails_ok (H.out.only0 HO.out) HPL.out dir)
    have HTC := Lib.hid (tails_ch H.out dir)
    have HE8 := Lib.hid (show wrap64 ((dir : Int) + 1) = ((dir + 1 : Nat) : Int) by rw [wrap_d (by have := HK.out; have := HPL.out; omega)]; rfl)
    obtain ⟨b, hb⟩ := upM_some HWY.out (show dir + 1 ≤ p.pend.length + 1 by have := HK.out; omega)
    have HCC := Lib.hid (upM_succ HU.out.1 hb)
    have HBN := Lib.hid (upM_mono HWY.out (show dir + 1 ≤ p.pend.length + 1 by have := HK.out; omega) hb)
    have HB := Lib.hid hb
    clear hb
    go_wp2_with fail
    refine HTL.out.mono ?_
    rintro e w2 ⟨v, rfl, hs, ho, _⟩
    have HCH := Lib.hid (choices_ok w2 (tls_of hs) (Nat.le_trans HTC.out.2 (by decide)) HTC.out.1)
    rw [tns_of] at HCH
    rw [show chM ((p.after dir).map fun x => (fs x.2).tail.length) 1 = some (chD (tailsM p fs) dir) from HCC.out.1] at HCH
    simp only [Option.getD_some, Option.isSome_some] at HCH
    have HS := Lib.hid hs
    have HO2 := Lib.hid (HO.out.trans ho)
    have HR2 := Lib.hid (HR.out.only ho (by simp))
    obtain ⟨va, vc, hvv, _, _⟩ := hs.shape
    subst hvv
    obtain ⟨c, hc⟩ : ∃ c, chD (tailsM p fs) dir = c := ⟨_, rfl⟩
    rw [hc] at HCC HCH
    have HCD := Lib.hid hc
    clear hs ho HTL HO HR hc
    go_wp2_with fail
    refine HCH.out.mono ?_
    rintro e w3 ⟨rfl, ho⟩
    have HS3 := Lib.hid (HS.out.only ho (by simp))
    have HO3 := Lib.hid (HO2.out.trans ho)
    have HR3 := Lib.hid (HR2.out.only ho (by simp))
    clear ho HS HO2 HR2 HCH
    by_cases hjc : j < c
    · have hjz : (j : Int) < (c : Int) := lt_z hjc
      have HRE := Lib.hid (show R = (dir, j) from by
        have h1 := HA.out
        rw [show p.pend.length + 1 - dir = (p.pend.length - dir) + 1 by have := HK.out; omega] at h1
        unfold atM at h1
        rw [HCD.out, if_pos hjc] at h1
        exact h1.symm)
      have HFT := Lib.hid (fate_ok w3 dir (tls_of HS3.out) (Nat.le_trans HTC.out.2 (by decide)) HTC.out.1 j (by have := HNM.out; have := HI.out; have := HU.out.2; omega))
      rw [tns_of] at HFT
      clear hjc
      go_wp2_with fail
      refine HFT.out.mono ?_
      rintro e w4 ⟨kv, rfl, hks, ho, hkw⟩
      obtain ⟨ka, kc, hkv, _, _⟩ := hks.1.shape
      subst hkv
      have HR4 := Lib.hid (HR3.out.only ho (by simp))
      have HO4 := Lib.hid (HO3.out.trans ho)
      have HKS := Lib.hid hks
      have HKW := Lib.hid (show ∀ g, _ → w.heap.size ≤ g from fun g hg => Nat.le_trans HO3.out.size (hkw g hg))
      have r0 := HR4.out.cell 0
      have r1 := HR4.out.cell 1
      have rl := HR4.out.lt
      have rf := HR4.out.frozen
      simp at r0 r1
      have HRB3 := Lib.hid (show rb < w3.heap.size from HR3.out.lt)
      have HBR := Lib.hid (show Blk ((w4.setCell ⟨rb, 0, none⟩ (iv dir)).setCell ⟨rb, 1, none⟩ (.slice ka (kjs (digM ((p.after dir).map fun x => (fs x.2).tail.length) j).1).length kc)) rb 33 #[iv dir, .slice ka (kjs (digM ((p.after dir).map fun x => (fs x.2).tail.length) j).1).length kc] from by
        have := (HR4.out.set_ 0 (iv dir)).set_ 1 (.slice ka (kjs (digM ((p.after dir).map fun x => (fs x.2).tail.length) j).1).length kc)
        simpa using this)
      have ho5 : Only [rb] w4 ((w4.setCell ⟨rb, 0, none⟩ (iv dir)).setCell ⟨rb, 1, none⟩ (.slice ka (kjs (digM ((p.after dir).map fun x => (fs x.2).tail.length) j).1).length kc)) := ((Only.refl [rb] w4).setCell (.inl (by simp)) _).setCell (.inl (by simp)) _
      have HO5 := Lib.hid (only_fresh HO4.out ho5 (Nat.le_of_eq HRB.out))
      have HKE := Lib.hid (ks_far HKS.out ho5 fun g hg => by
        have h1 := hkw g hg
        have h2 := HRB3.out
        simp
        omega)
      clear hks ho hkw ho5 HFT
      go_wp2
      refine bodyPost_ret (results2 rfl (res_blk (cs := [iv dir, .slice ka (kjs (digM ((p.after dir).map fun x => (fs x.2).tail.length) j).1).length kc]) Try.underlying33 (by kernel_rfl) rfl HBR.out) (res_tmp rfl)) rfl ?_
      rw [HRE.out]
      exact ⟨_, rfl, HKE.out, HO5.out, HKW.out⟩
    · have hjz : ¬ (j : Int) < (c : Int) := nlt_z hjc
      have HSB := Lib.hid (show wrap64 ((j : Int) - (c : Int)) = ((j - c : Nat) : Int) by rw [wrap_d (by have := HNM.out; have := HI.out; have := HU.out.2; have h7 : mostC = 1099511627776 := rfl; omega)]; omega)
      have HBA := Lib.hid (show b = a + c ∧ b ≤ n from ⟨HCC.out.2, HBN.out⟩)
      have HDL := Lib.hid (show dir + 1 ≤ p.pend.length from by
        rcases Nat.lt_or_ge dir p.pend.length with h | h
        · exact h
        · exfalso
          have e1 : dir = p.pend.length := Nat.le_antisymm HK.out h
          have h1 := HB.out
          rw [e1, HWY.out] at h1
          injection h1 with h1
          have := HBA.out.1
          have := HU.out.2
          have := HI.out
          omega)
      have HUN := Lib.hid (show upM (tailsM p fs) (dir + 1) = some (a + c) ∧ a + c + (j - c) = i from ⟨by rw [HB.out, HBA.out.1], by have := HU.out.2; omega⟩)
      have HAN := Lib.hid (show atM (tailsM p fs) (p.pend.length + 1 - (dir + 1)) (dir + 1) (j - c) = R from by
        have h1 := HA.out
        rw [show p.pend.length + 1 - dir = (p.pend.length + 1 - (dir + 1)) + 1 by have := HK.out; omega] at h1
        unfold atM at h1
        rw [HCD.out, if_neg hjc] at h1
        exact h1)
      have HMS := Lib.hid (show p.pend.length + 1 - (intOf (.int .i64 ((dir + 1 : Nat) : Int))).toNat < p.pend.length + 1 - (intOf (.int .i64 (dir : Int))).toNat from meas (Nat.lt_succ_of_le HK.out))
      clear hjc
      go_wp2
      go_roundw
      case measure => (try rw [HE8.out]); exact HMS.out
      case rel => exact ⟨j - c, dir + 1, a + c, by first | rfl | rw [HSB.out], by first | rfl | rw [HE8.out], HDL, HUN, HAN, HR3, HO3⟩
end
end Go.Proofs.Ythekilgolelomaa
