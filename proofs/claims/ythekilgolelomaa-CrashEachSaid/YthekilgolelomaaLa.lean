/-
  Package crash: choices, upTo, Ways.
-/
import Derived.Test.YthekilgolelomaaKf
import Derived.Test.YthekilgolelomaaOa
set_option linter.unusedSimpArgs false
set_option linter.unusedVariables false
namespace Go.Proofs.Ythekilgolelomaa
open Go.RowKit Go.Fl

def mostC : Nat := 1099511627776
/-- How many fates there are of so many tails; none: too many. -/
def chM : List Nat → Nat → Option Nat
  | [], n => some n
  | t :: l, n => if mostC / (t + 1) < n then none else chM l (n * (t + 1))
theorem chM_le : ∀ {l : List Nat} {n m : Nat}, n ≤ mostC → chM l n = some m → m ≤ mostC
  | [], n, m, h, e => by injection e with e; omega
  | t :: l, n, m, h, e => by
    unfold chM at e
    split at e
    · cases e
    · rename_i h2
      exact chM_le (by have h3 := Nat.mul_le_mul_right (t + 1) (Nat.le_of_not_lt h2); have h4 := Nat.div_mul_le_self mostC (t + 1); omega) e
theorem chM_step {l : List Nat} {n k : Nat} (hk : k < l.length) (h : chM (l.take k) 1 = some n) : chM (l.take (k + 1)) 1 = if mostC / (l[k] + 1) < n then none else some (n * (l[k] + 1)) := by
  have gen : ∀ (a : List Nat) (x m : Nat), chM a m = some n → chM (a ++ [x]) m = if mostC / (x + 1) < n then none else some (n * (x + 1)) := by
    intro a
    induction a with
    | nil =>
      intro x m e
      injection e with e
      subst e
      rfl
    | cons t a ih =>
      intro x m e
      unfold chM at e
      show chM (t :: (a ++ [x])) m = _
      unfold chM
      split at e
      · cases e
      · rename_i h2
        rw [if_neg h2]
        exact ih x _ e
  rw [List.take_succ_eq_append_getElem hk]
  exact gen _ _ _ h
theorem chM_none {l : List Nat} {k : Nat} (h : chM (l.take k) 1 = none) : chM l 1 = none := by
  have gen : ∀ (a b : List Nat) (m : Nat), chM a m = none → chM (a ++ b) m = none := by
    intro a
    induction a with
    | nil => intro b m e; cases e
    | cons t a ih =>
      intro b m e
      unfold chM at e
      show chM (t :: (a ++ b)) m = none
      unfold chM
      split at e
      · rename_i h2; rw [if_pos h2]
      · rename_i h2; rw [if_neg h2]; exact ih b _ e
  have := gen (l.take k) (l.drop k) 1 h
  rwa [List.take_append_drop] at this
/-- A slice of tails. -/
def TLs (w : World) (v : Value) (L : List (Nm × Nat)) : Prop := Sr w 2 v L.length (L.map fun x => [sk x.1, iv x.2]).flatten
theorem tls_get (L : List (Nm × Nat)) (k : Nat) (hk : k < L.length) : (L.map fun x => [sk x.1, iv x.2]).flatten[k * 2]? = some (sk (L[k]).1) ∧ (L.map fun x => [sk x.1, iv x.2]).flatten[k * 2 + 1]? = some (iv (L[k]).2) := by
  have h0 := flat_get (k := 2) (by decide) (L.map fun x => [sk x.1, iv x.2]) (fun y hy => by obtain ⟨o, _, rfl⟩ := List.mem_map.1 hy; rfl)
  constructor
  · rw [h0]
    have h1 : k * 2 / 2 = k := by omega
    have h2 : k * 2 % 2 = 0 := by omega
    rw [h1, h2, List.getElem?_map, List.getElem?_eq_getElem hk]
    rfl
  · rw [h0]
    have h1 : (k * 2 + 1) / 2 = k := by omega
    have h2 : (k * 2 + 1) % 2 = 1 := by omega
    rw [h1, h2, List.getElem?_map, List.getElem?_eq_getElem hk]
    rfl
def tns (L : List (Nm × Nat)) : List Nat := L.map (·.2)
theorem ch_num {n t : Nat} (hn : n ≤ mostC) (ht : t ≤ 1073741824) : wrap64 ((t : Int) + 1) = (t : Int) + 1 ∧ (mostC / (t + 1) < n → decide ((1099511627776 : Int) / ((t : Int) + 1) < (n : Int)) = true) ∧
    (¬ mostC / (t + 1) < n → decide ((1099511627776 : Int) / ((t : Int) + 1) < (n : Int)) = false ∧ wrap64 ((n : Int) * ((t : Int) + 1)) = ((n * (t + 1) : Nat) : Int)) := by
  have h1 : (1099511627776 : Int) / ((t : Int) + 1) = ((mostC / (t + 1) : Nat) : Int) := by
    rw [show (1099511627776 : Int) = ((mostC : Nat) : Int) from rfl]
    rfl
  refine ⟨wrap_d (by omega), fun h => by rw [h1]; exact decide_eq_true (by omega), fun h => ⟨by rw [h1]; exact decide_eq_false (by omega), ?_⟩⟩
  have h3 := Nat.mul_le_mul_right (t + 1) (Nat.le_of_not_lt h)
  have h4 := Nat.div_mul_le_self mostC (t + 1)
  have h5 : n * (t + 1) ≤ mostC := Nat.le_trans h3 h4
  have h6 : (n : Int) * ((t : Int) + 1) = ((n * (t + 1) : Nat) : Int) := by push_cast; rfl
  rw [h6]
  have h7 : mostC = 1099511627776 := rfl
  generalize n * (t + 1) = x at h5 ⊢
  exact wrap_d (by omega)
set_option maxRecDepth 100000 in
set_option maxHeartbeats 3200000 in
theorem choices_ok (w : World) {v : Value} {L : List (Nm × Nat)} (hv : TLs w v L) (hl : L.length ≤ 1048576) (hb : ∀ x ∈ L, x.2 ≤ 1073741824) : Calls Try.prog 50 #[v] w fun e w' =>
    e = .returned (.tuple #[iv ((chM (tns L) 1).getD 0), .bool (chM (tns L) 1).isSome]) ∧ Only [] w w' := by
  obtain ⟨va, vc, hvv, hvc, _⟩ := hv.shape
  subst hvv
  have HV := Lib.hid hv
  have HB := Lib.hid hb
  obtain ⟨N, hN⟩ : ∃ N, L.length = N := ⟨_, rfl⟩
  have HN := Lib.hid hN
  have HL := Lib.hid (hN ▸ hl)
  rw [hN] at hvc ⊢
  clear hv hb hl hN
  go_enter Try.func50, Try.ntmps50
  go_wp2
  go_loopw [4, 9] (fun z4 z9 wr => ∃ (n k : Nat), z4 = .int .i64 n ∧ z9 = .int .i64 k ∧ Hid (k ≤ N) ∧ Hid (chM ((tns L).take k) 1 = some n) ∧ Hid (Only [] w wr)) (fun _ z9 _ => N - (intOf z9).toNat)
  case atStart => exact ⟨1, 0, rfl, rfl, Lib.hid (Nat.zero_le _), Lib.hid rfl, Lib.hid (Only.refl _ _)⟩
  case round =>
    obtain ⟨n, k, rfl, rfl, HK, HC, HO⟩ := hrel
    by_cases hkl : k < N
    case neg =>
      have hkz : ¬ (k : Int) < (N : Int) := nlt_z hkl
      have HE := Lib.hid (show chM (tns L) 1 = some n from by
        have h1 := HC.out
        have h2 : k = N := Nat.le_antisymm HK.out (Nat.le_of_not_lt hkl)
        rw [h2, List.take_of_length_le (by unfold tns; rw [List.length_map, HN.out]; exact Nat.le_refl _)] at h1
        exact h1)
      clear hkl
      go_wp2
      refine bodyPost_ret (results2 rfl (res_tmp rfl) (res_tmp rfl)) rfl ⟨?_, HO.out⟩
      rw [HE.out]
      rfl
    have hkz : (k : Int) < (N : Int) := lt_z hkl
    have hka : k < L.length := by rw [HN.out]; exact hkl
    have HVR := Lib.hid (Sr.only0 HV.out HO.out)
    obtain ⟨g, o, c', hv, hfm⟩ := HVR.out.form (by omega)
    injection hv with hva hvl hvc
    subst hva
    subst hvc
    clear hvl hfm
    have y0 := HVR.out.cells_ _ _ (tls_get L k hka).1
    have y1 := HVR.out.cells_ _ _ (tls_get L k hka).2
    rw [Addr.add_lit] at y0 y1
    have hkt : k < (tns L).length := by unfold tns; rw [List.length_map]; exact hka
    have hst := chM_step hkt HC.out
    have hlx : (tns L)[k] = (L[k]).2 := by simp [tns]
    rw [hlx] at hst
    have hbx := HB.out _ (List.getElem_mem hka)
    obtain ⟨⟨s, t⟩, hx⟩ : ∃ x, L[k] = x := ⟨_, rfl⟩
    rw [hx] at y0 y1 hst hbx
    dsimp only at y0 y1 hst hbx
    rw [← Nat.add_assoc] at y1
    obtain ⟨q1, q2, q3⟩ := ch_num (chM_le (by decide) HC.out) hbx
    have HKL := Lib.hid hkl
    have HE8 := Lib.hid (wrap_sm (by have := HL.out; omega) hkl)
    have HMS := Lib.hid (meas hkl)
    have HOR := Lib.hid (show Only [] w (wr.alloc (.cells #[sk s, iv t] 77)) from HO.out.alloc _)
    clear hkl hka hkt hlx hbx hx
    by_cases hq : mostC / (t + 1) < n
    · rw [if_pos hq] at hst
      have HE := Lib.hid (chM_none hst)
      have hqi := q2 hq
      clear q2 q3 hq hst
      go_wp2
      refine bodyPost_ret (results2 rfl (res_tmp rfl) (res_tmp rfl)) rfl ⟨?_, HOR.out⟩
      rw [HE.out]
      rfl
    · rw [if_neg hq] at hst
      have HE := Lib.hid hst
      obtain ⟨hqi, hm⟩ := q3 hq
      have HM := Lib.hid hm
      clear q2 q3 hq hst hm
      go_wp2
      go_roundw
      case measure => (try rw [HE8.out]); exact HMS.out
      case rel => exact ⟨n * (t + 1), k + 1, by rw [HM.out], by first | rfl | rw [HE8.out], Lib.hid HKL.out, HE, HOR⟩
/-! ### All fates with few changes -/
def upM (T : Nat → List Nat) : Nat → Option Nat
  | 0 => some 0
  | i + 1 => match upM T i with
    | none => none
    | some a => match chM (T i) 1 with
      | none => none
      | some m => if mostC - m < a then none else some (a + m)
theorem upM_le {T : Nat → List Nat} : ∀ {i a : Nat}, upM T i = some a → a ≤ mostC
  | 0, a, h => by injection h with h; omega
  | i + 1, a, h => by
    unfold upM at h
    cases hu : upM T i with
    | none => rw [hu] at h; cases h
    | some b =>
      rw [hu] at h
      dsimp only at h
      cases hc : chM (T i) 1 with
      | none => rw [hc] at h; cases h
      | some m =>
        rw [hc] at h
        dsimp only at h
        have := chM_le (by decide) hc
        split at h
        · cases h
        · injection h with h
          omega
theorem upM_none {T : Nat → List Nat} {i j : Nat} (h : upM T i = none) (hij : i ≤ j) : upM T j = none := by
  induction j with
  | zero => rw [show i = 0 by omega] at h; exact h
  | succ j ih =>
    by_cases e : i = j + 1
    · rw [← e]; exact h
    · unfold upM
      rw [ih (by omega)]
/-- How long the tails are behind n changes. -/
def tailsM (p : PD) (fs : Nat → FD) (n : Nat) : List Nat := (p.after n).map fun x => (fs x.2).tail.length
theorem tls_of {w : World} {v : Value} {fs : Nat → FD} {l : Dir} (h : Sl w 77 2 v l.length (tcs fs l)) : TLs w v (l.map fun x => (x.1, (fs x.2).tail.length)) := by
  have h1 := h.sr
  unfold TLs
  rw [List.map_map, List.length_map]
  exact h1
theorem tns_of (fs : Nat → FD) (l : Dir) : tns (l.map fun x => (x.1, (fs x.2).tail.length)) = l.map fun x => (fs x.2).tail.length := by
  unfold tns
  rw [List.map_map]
  rfl
theorem tail_le (f : FD) (h : f.Ok) : f.tail.length ≤ 1073741824 := by
  unfold FD.tail
  rw [List.length_drop]
  have := h.2.2
  omega
section
variable {w w' : World} {F G : Nat → Prop} {d : Nat} {p p' : PD} {fs : Nat → FD} {ids : Nat → Prop}
/-- The tails behind so many changes, and how many fates they have. -/
theorem tails_ch (h0 : DK w F d p fs ids) (n : Nat) : (∀ x ∈ (p.after n).map fun x => (x.1, (fs x.2).tail.length), x.2 ≤ 1073741824) ∧ ((p.after n).map fun x => (x.1, (fs x.2).tail.length)).length ≤ 256 := by
  obtain ⟨⟨nb, lb, pv, fv, bv, lv, h⟩, hF⟩ := h0
  refine ⟨fun x hx => ?_, by rw [List.length_map]; exact (h.ok.after n).2.1⟩
  obtain ⟨y, hy, rfl⟩ := List.mem_map.1 hx
  exact tail_le _ (h.fs.file _ (h.live.after n y hy)).ok
theorem up_num {a m : Nat} (ha : a ≤ mostC) (hm : m ≤ mostC) : wrap64 ((1099511627776 : Int) - (m : Int)) = (1099511627776 : Int) - (m : Int) ∧ (mostC - m < a → decide ((1099511627776 : Int) - (m : Int) < (a : Int)) = true) ∧
    (¬ mostC - m < a → decide ((1099511627776 : Int) - (m : Int) < (a : Int)) = false ∧ wrap64 ((a : Int) + (m : Int)) = ((a + m : Nat) : Int)) := by
  have h7 : mostC = 1099511627776 := rfl
  refine ⟨wrap_d (by omega), fun h => decide_eq_true (by omega), fun h => ⟨decide_eq_false (by omega), by rw [wrap_d (by omega)]; omega⟩⟩
set_option maxRecDepth 100000 in
set_option maxHeartbeats 3200000 in
theorem upto_ok (h0 : DK w F d p fs ids) (hpl : p.pend.length ≤ 1048576) (n : Nat) (hn : n ≤ 2097152) : Calls Try.prog 41 #[cp d, iv n] w fun e w' =>
    e = .returned (.tuple #[iv ((upM (tailsM p fs) n).getD 0), .bool (upM (tailsM p fs) n).isSome]) ∧ Only [] w w' := by
  have H := Lib.hid h0
  have HPL := Lib.hid hpl
  have HNL := Lib.hid hn
  clear h0 hpl hn
  go_enter Try.func41, Try.ntmps41
  go_wp2
  go_loopw [6, 11] (fun z6 z11 wr => ∃ (a i : Nat), z6 = .int .i64 a ∧ z11 = .int .i64 i ∧ Hid (i ≤ n) ∧ Hid (upM (tailsM p fs) i = some a) ∧ Hid (Only [] w wr)) (fun _ z11 _ => n - (intOf z11).toNat)
  case atStart => exact ⟨0, 0, rfl, rfl, Lib.hid (Nat.zero_le _), Lib.hid rfl, Lib.hid (Only.refl _ _)⟩
  case round =>
    obtain ⟨a, i, rfl, rfl, HK, HC, HO⟩ := hrel
    by_cases hkl : i < n
    case neg =>
      have hkz : ¬ (i : Int) < (n : Int) := nlt_z hkl
      have HE := Lib.hid (show upM (tailsM p fs) n = some a from by
        have h1 := HC.out
        rwa [Nat.le_antisymm HK.out (Nat.le_of_not_lt hkl)] at h1)
      clear hkl
      go_wp2
      refine bodyPost_ret (results2 rfl (res_tmp rfl) (res_tmp rfl)) rfl ⟨?_, HO.out⟩
      rw [HE.out]
      rfl
    have hkz : (i : Int) < (n : Int) := lt_z hkl
    have HTL := Lib.hid (tails_ok (H.out.only0 HO.out) HPL.out i)
    have HKL := Lib.hid hkl
    have HE8 := Lib.hid (wrap_sm (n := n) (by have := HNL.out; omega) hkl)
    have HMS := Lib.hid (meas hkl)
    have HTC := Lib.hid (tails_ch H.out i)
    clear hkl
    go_wp2_with fail
    refine HTL.out.mono ?_
    rintro e w1 ⟨v, rfl, hs, ho, _⟩
    have HCH := Lib.hid (choices_ok w1 (tls_of hs) (Nat.le_trans HTC.out.2 (by decide)) HTC.out.1)
    rw [tns_of] at HCH
    have HO1 := Lib.hid (HO.out.trans ho)
    obtain ⟨c, hc⟩ : ∃ c, chM ((p.after i).map fun x => (fs x.2).tail.length) 1 = c := ⟨_, rfl⟩
    have HCC := Lib.hid (show chM (tailsM p fs i) 1 = c from hc)
    rw [hc] at HCH
    obtain ⟨va, vc, hvv, _, _⟩ := hs.shape
    subst hvv
    clear hs ho HTL hc HO
    go_wp2_with fail
    refine HCH.out.mono ?_
    rintro e w2 ⟨rfl, ho⟩
    have HO2 := Lib.hid (HO1.out.trans ho)
    clear ho HCH HO1
    cases c with
    | none =>
      have HE := Lib.hid (upM_none (T := tailsM p fs) (i := i + 1) (j := n) (by unfold upM; rw [HC.out]; dsimp only; rw [HCC.out]) HKL.out)
      simp only [Option.getD_none, Option.isSome_none]
      go_wp2
      refine bodyPost_ret (results2 rfl (res_tmp rfl) (res_tmp rfl)) rfl ⟨?_, HO2.out⟩
      rw [HE.out]
      rfl
    | some m =>
      simp only [Option.getD_some, Option.isSome_some]
      obtain ⟨q1, q2, q3⟩ := up_num (upM_le HC.out) (chM_le (by decide) HCC.out)
      by_cases hq : mostC - m < a
      · have HE := Lib.hid (upM_none (T := tailsM p fs) (i := i + 1) (j := n) (by unfold upM; rw [HC.out]; dsimp only; rw [HCC.out]; dsimp only; rw [if_pos hq]) HKL.out)
        have hqi := q2 hq
        clear q2 q3 hq
        go_wp2
        refine bodyPost_ret (results2 rfl (res_tmp rfl) (res_tmp rfl)) rfl ⟨?_, HO2.out⟩
        rw [HE.out]
        rfl
      · have HE := Lib.hid (show upM (tailsM p fs) (i + 1) = some (a + m) by unfold upM; rw [HC.out]; dsimp only; rw [HCC.out]; dsimp only; rw [if_neg hq])
        obtain ⟨hqi, hm⟩ := q3 hq
        have HM := Lib.hid hm
        clear q2 q3 hq hm
        go_wp2
        go_roundw
        case measure => (try rw [HE8.out]); exact HMS.out
        case rel => exact ⟨a + m, i + 1, by first | rfl | rw [HM.out], by first | rfl | rw [HE8.out], Lib.hid HKL.out, HE, HO2⟩
/-- How many fates a disk has. -/
def waysM (p : PD) (fs : Nat → FD) : Option Nat := upM (tailsM p fs) (p.pend.length + 1)
set_option maxRecDepth 100000 in
set_option maxHeartbeats 1600000 in
theorem ways_ok (h0 : DK w F d p fs ids) (hpl : p.pend.length ≤ 1048576) : Calls Try.prog 17 #[cp d] w fun e w' =>
    e = .returned (.tuple #[iv ((waysM p fs).getD 0), iv (if (waysM p fs).isSome = true then 0 else 9)]) ∧ Only [] w w' := by
  have HP := Lib.hid (pending_ok h0)
  have HU := Lib.hid (upto_ok h0 hpl (p.pend.length + 1) (by omega))
  obtain ⟨W, hW⟩ : ∃ W, waysM p fs = W := ⟨_, rfl⟩
  rw [show upM (tailsM p fs) (p.pend.length + 1) = W from hW] at HU
  rw [hW]
  have hs : wrap64 ((p.pend.length : Int) + 1) = ((p.pend.length + 1 : Nat) : Int) := by rw [wrap_d (by omega)]; rfl
  obtain ⟨N, hN⟩ : ∃ N, p.pend.length = N := ⟨_, rfl⟩
  rw [hN] at hs HU HP
  obtain ⟨M, hM⟩ : ∃ M, N + 1 = M := ⟨_, rfl⟩
  rw [hM] at hs HU
  clear h0 hpl hW hN hM
  cases W with
  | none =>
    simp only [Option.getD_none, Option.isSome_none] at HU ⊢
    go_enter Try.func17, Try.ntmps17
    go_wp2_with fail
    refine HP.out.mono ?_
    rintro e w1 ⟨rfl, rfl⟩
    go_wp2_with fail
    refine HU.out.mono ?_
    rintro e w1 ⟨rfl, ho⟩
    go_wp2
    exact bodyPost_ret (results2 rfl (res_tmp rfl) (res_tmp rfl)) rfl ⟨rfl, ho⟩
  | some n =>
    simp only [Option.getD_some, Option.isSome_some] at HU ⊢
    go_enter Try.func17, Try.ntmps17
    go_wp2_with fail
    refine HP.out.mono ?_
    rintro e w1 ⟨rfl, rfl⟩
    go_wp2_with fail
    refine HU.out.mono ?_
    rintro e w1 ⟨rfl, ho⟩
    go_wp2
    exact bodyPost_ret (results2 rfl (res_tmp rfl) (res_tmp rfl)) rfl ⟨rfl, ho⟩
end
end Go.Proofs.Ythekilgolelomaa
