/-
  made, May; light, Light.
-/
import Derived.Test.YtffdfegelgpniaaZVf
set_option linter.unusedSimpArgs false
set_option linter.unusedVariables false
set_option linter.unusedSimpArgs false
set_option linter.unusedVariables false
namespace Go.Proofs.Ytffdfegelgpniaa
open Go.RowKit Go.Fl

theorem takeOk_all (v : V) : TakeOk v := by
  refine V.rec (motive_1 := TakeOk) (motive_2 := fun l => ∀ x ∈ l, TakeOk x) ?_ ?_ ?_ v
  · intro k i r t l ih
    by_cases hk : k = 1 ∨ k = 2 ∨ k = 3 ∨ k = 4
    · exact take_low k i r t l hk
    · exact take_high k i r t l hk (all_ok l fun j h => ih _ (List.getElem_mem h))
  · intro x hx; cases hx
  · intro a l ha hl x hx
    rcases List.mem_cons.1 hx with rfl | hx
    · exact ha
    · exact hl x hx
/-- A value's item, if it may be. -/
def V.item (v : V) : Option I := (v.take 0 65536).1
def V.may (v : V) : Bool := v.item.isSome
def MadePost (w : World) (x : Option I) (e : Ending) (w' : World) : Prop := ∃ u, e = .returned u ∧ OkI w' (w.heap.size ≤ ·) x u ∧ Only [] w w'
set_option maxRecDepth 100000 in
theorem made_ok {w : World} {F : Nat → Prop} {v : V} {cs : List Value} (h : VIs w F v cs) : Calls Try.prog 42 #[.agg cs.toArray] w (MadePost w v.item) := by
  have H := Lib.hid h
  obtain ⟨k, i, r, t, a, n, cap, rfl⟩ := h.five
  clear h
  have HT := Lib.hid (takeOk_all v ((w.alloc (.cells #[iv k, iv i, fv r, .string t, .slice a n cap] 33)).alloc (.cells #[iv 65536] 91)) (fun g => F g ∧ g < w.heap.size) _ (w.heap.size + 1) 65536 0 (H.out.keep (by simp; omega) (fun g hf hg => ((Below.heap_alloc _ _ g (by simp; omega)).trans (Below.heap_alloc w _ g hg))) fun g hf hg => ⟨hf, hg⟩) (by omega) (by have := Blk.new (w.alloc (.cells #[iv k, iv i, fv r, .string t, .slice a n cap] 33)) 91 #[iv 65536]; simpa using this) (by omega) (by omega) (by omega))
  have HO := Lib.hid (show Only [] w ((w.alloc (.cells #[iv k, iv i, fv r, .string t, .slice a n cap] 33)).alloc (.cells #[iv 65536] 91)) from ((Only.refl _ w).alloc _).alloc _)
  go_enter Try.func42, Try.ntmps42
  go_wp2_with fail
  refine HT.out.mono ?_
  clear HT
  rintro e w2 ⟨u, rfl, hu, hb, ho⟩
  have HU := Lib.hid hu
  have HQ := Lib.hid (HO.out.trans' ho fun i hi => .inr (by simp at hi; omega))
  clear hu hb ho
  go_wp2
  refine bodyPost_ret (results_tmp rfl _ _ _) rfl ⟨u, rfl, ?_, HQ.out⟩
  have := HU.out
  show OkI w2 _ (v.take 0 65536).1 u
  cases hr : (v.take 0 65536).1 with
  | none => rw [hr] at this; exact this
  | some xs =>
    rw [hr] at this
    obtain ⟨u', e, hi⟩ := this
    exact ⟨u', e, hi.mono fun g hg => Nat.le_trans HO.out.size hg⟩
set_option maxRecDepth 100000 in
theorem may_ok {w : World} {F : Nat → Prop} {v : V} {cs : List Value} (h : VIs w F v cs) : Calls Try.prog 19 #[.agg cs.toArray] w fun e w' => e = .returned (.bool v.may) ∧ Only [] w w' := by
  have H := Lib.hid h
  obtain ⟨k, i, r, t, a, n, cap, rfl⟩ := h.five
  clear h
  have HT := Lib.hid (made_ok (H.out.only0 (w' := w.alloc (.cells #[iv k, iv i, fv r, .string t, .slice a n cap] 33)) ((Only.refl _ w).alloc _)))
  go_enter Try.func19, Try.ntmps19
  go_wp2_with fail
  refine HT.out.mono ?_
  clear HT
  rintro e w2 ⟨u, rfl, hu, ho⟩
  have HO := Lib.hid (((Only.refl _ w).alloc _).trans ho)
  clear ho
  cases hr : v.item with
  | none =>
    rw [hr] at hu
    obtain rfl : u = .nilIface := hu
    have HR := Lib.hid hr
    clear hr
    go_wp2
    exact bodyPost_ret (results_tmp rfl _ _ _) rfl ⟨by unfold V.may; rw [HR.out]; rfl, HO.out⟩
  | some x =>
    rw [hr] at hu
    obtain ⟨u', rfl, _⟩ := hu
    have HR := Lib.hid hr
    clear hr
    go_wp2
    exact bodyPost_ret (results_tmp rfl _ _ _) rfl ⟨by unfold V.may; rw [HR.out]; rfl, HO.out⟩
mutual
/-- How much is left behind a value (3,000 values, 20 deep); below 0: too much. -/
def V.light : V → Int → Int → Int
  | .mk _ _ _ _ l, deep, left => if 20 < deep then -1 else lights l (deep + 1) (left - 1)
def lights : List V → Int → Int → Int
  | [], _, left => left
  | v :: l, deep, left => if left < 0 then left else lights l deep (v.light deep left)
end
theorem lights_neg : ∀ (l : List V) (deep left : Int), left < 0 → lights l deep left = left
  | [], _, _, _ => rfl
  | v :: l, deep, left, h => by unfold lights; rw [if_pos h]
theorem lights_append : ∀ (a b : List V) (deep left : Int), lights (a ++ b) deep left = lights b deep (lights a deep left)
  | [], _, _, _ => rfl
  | v :: a, b, deep, left => by
    rw [List.cons_append]
    by_cases h : left < 0
    · simp only [lights, if_pos h]
      exact (lights_neg b deep left h).symm
    · simp only [lights, if_neg h]
      exact lights_append a b deep _
mutual
theorem V.light_low : ∀ (v : V) (deep left : Int), 0 ≤ left → -1 ≤ v.light deep left ∧ v.light deep left ≤ left
  | .mk _ _ _ _ l, deep, left, h => by
    unfold V.light
    split
    · omega
    · have := lights_low l (deep + 1) (left - 1) (by omega)
      omega
theorem lights_low : ∀ (l : List V) (deep left : Int), -1 ≤ left → -1 ≤ lights l deep left ∧ lights l deep left ≤ left
  | [], _, left, h => by unfold lights; omega
  | v :: l, deep, left, h => by
    unfold lights
    split
    · omega
    · have h1 := V.light_low v deep left (by omega)
      have h2 := lights_low l deep (v.light deep left) h1.1
      omega
end
def LightOk (v : V) : Prop := ∀ (w : World) (F : Nat → Prop) (cs : List Value) (deep : Nat) (left : Int), VIs w F v cs → deep ≤ 21 → 0 ≤ left → left ≤ 3000 →
  Calls Try.prog 40 #[.agg cs.toArray, iv deep, iv left] w fun e w' => e = .returned (iv (v.light deep left)) ∧ Only [] w w'
set_option maxRecDepth 100000 in
set_option maxHeartbeats 3200000 in
theorem light_step (v : V) (H : ∀ x ∈ v.kids, LightOk x) : LightOk v := by
  intro w F cs deep left hv hd h0 h1
  cases hv with
  | @mk k i r t l a cap css wk wi wr wt hlen hmax hcell hvs =>
  have HC := Lib.hid hcell
  have HV := Lib.hid hvs
  have HH := Lib.hid H
  clear hcell hvs H
  have hlm : l.length ≤ maxLen := by omega
  unfold maxLen at hlm
  unfold V.light
  by_cases h20 : 20 < deep
  · have h20z : (20 : Int) < (deep : Int) := by omega
    rw [if_pos (by omega)]
    go_enter Try.func40, Try.ntmps40
    go_wp2
    exact bodyPost_ret (results_tmp rfl _ _ _) rfl ⟨rfl, (Only.refl _ w).alloc _⟩
  have h20z : ¬ (20 : Int) < (deep : Int) := by omega
  rw [if_neg (by omega)]
  obtain ⟨w0, hw0⟩ : ∃ x : World, x = w.alloc (.cells #[iv k, iv i, fv r, .string t, .slice a l.length cap] 33) := ⟨_, rfl⟩
  have HB0 := Lib.hid (show Blk w0 w.heap.size 33 #[iv k, iv i, fv r, .string t, .slice a l.length cap] by rw [hw0]; exact Blk.new _ _ _)
  have HO0 := Lib.hid (show Only [] w w0 by rw [hw0]; exact (Only.refl _ w).alloc _)
  have HS0 := Lib.hid hw0
  clear hw0
  go_enter Try.func40, Try.ntmps40
  go_wp2
  rw [← HS0.out]
  go_loopw [2, 7] (fun z c wr => ∃ n : Nat, n ≤ l.length ∧ c = .int .i64 n ∧ z = iv (lights (l.take n) (deep + 1) (left - 1)) ∧ Hid (Only [] w0 wr)) (fun _ c _ => l.length - (intOf c).toNat)
  case atStart => exact ⟨0, Nat.zero_le _, rfl, rfl, Lib.hid (Only.refl _ _)⟩
  case round =>
    obtain ⟨n, hn, rfl, rfl, HO⟩ := hrel
    have hb := (HB0.out.only HO.out (by simp))
    have x4 := hb.cell 4
    simp at x4
    clear hb
    have hlow := lights_low (l.take n) (deep + 1) (left - 1) (by omega)
    have HAP := Lib.hid (show lights l (deep + 1) (left - 1) = lights (l.drop n) (deep + 1) (lights (l.take n) (deep + 1) (left - 1)) by rw [← lights_append, List.take_append_drop])
    have HSN := Lib.hid (fun (hh : n < l.length) => show lights (l.take (n + 1)) (deep + 1) (left - 1) = lights [l[n]] (deep + 1) (lights (l.take n) (deep + 1) (left - 1)) by rw [List.take_succ_eq_append_getElem hh, lights_append])
    generalize lights (l.take n) (deep + 1) (left - 1) = m at *
    by_cases hnl : n < l.length
    · have hnz : (n : Int) < (l.length : Int) := by omega
      by_cases hm : m < 0
      · have hm' : decide (0 ≤ m) = false := by simp; omega
        go_wp2
        refine bodyPost_ret (results_tmp rfl _ _ _) rfl ⟨?_, HO0.out.trans HO.out⟩
        exact congrArg (fun z => Ending.returned (iv z)) (show m = lights l (deep + 1) (left - 1) by rw [HAP.out, lights_neg _ _ _ hm])
      · have hm' : decide (0 ≤ m) = true := by simp; omega
        obtain ⟨g, off, rfl, hg, hFg, hcc⟩ := HC.out (by omega)
        have hv := HV.out n hnl
        obtain ⟨c0, c1, c2, c3, c4, c5, c6, hcs⟩ := hv.five
        have hx : ∀ c u, (css n)[c]? = some u → wr.cell? ⟨g, off + n * 5 + c, none⟩ = some u := fun c u hu => ((HO0.out.trans HO.out).cell (p := ⟨g, off + n * 5 + c, none⟩) hg (by simp)).trans (hcc n c u hnl hu)
        have x0 := hx 0 (iv c0) (by rw [hcs]; rfl)
        have x1 := hx 1 (iv c1) (by rw [hcs]; rfl)
        have x2 := hx 2 (fv c2) (by rw [hcs]; rfl)
        have x3 := hx 3 (.string c3) (by rw [hcs]; rfl)
        have x5 := hx 4 (.slice c4 c5 c6) (by rw [hcs]; rfl)
        rw [Nat.add_zero] at x0
        have HT := Lib.hid (HH.out _ (List.getElem_mem hnl) wr F (css n) (deep + 1) m (hv.only0 (HO0.out.trans HO.out)) (by omega) (by omega) (by omega))
        rw [hcs] at HT
        clear hx hcc HC
        go_wp2_with fail
        refine HT.out.mono ?_
        clear HT
        rintro e w2 ⟨rfl, ho2⟩
        have HO2 := Lib.hid (HO.out.trans ho2)
        have HSM := Lib.hid (show lights (l.take (n + 1)) (deep + 1) (left - 1) = l[n].light (deep + 1) m by rw [HSN.out hnl]; simp only [lights, if_neg (show ¬ m < 0 by omega)])
        have HF : Hid (iv (l[n].light (deep + 1) m) = iv (lights (l.take (n + 1)) (deep + 1) (left - 1))) := Lib.hid (by rw [HSM.out])
        clear HSN HAP ho2
        go_wp2
        go_roundw
        case measure => simp [intOf]; omega
        case rel => exact ⟨n + 1, by omega, by go_num, HF.out, HO2⟩
    · obtain rfl : n = l.length := by omega
      have HL := Lib.hid (show m = lights l (deep + 1) (left - 1) by rw [HAP.out, List.drop_length]; rfl)
      clear HSN HAP
      by_cases hm : m < 0
      · have hm' : decide (0 ≤ m) = false := by simp; omega
        go_wp2
        refine bodyPost_ret (results_tmp rfl _ _ _) rfl ⟨?_, HO0.out.trans HO.out⟩
        exact congrArg (fun z => Ending.returned (iv z)) HL.out
      · have hm' : decide (0 ≤ m) = true := by simp; omega
        go_wp2
        refine bodyPost_ret (results_tmp rfl _ _ _) rfl ⟨?_, HO0.out.trans HO.out⟩
        exact congrArg (fun z => Ending.returned (iv z)) HL.out
theorem light_ok (v : V) : LightOk v := by
  refine V.rec (motive_1 := LightOk) (motive_2 := fun l => ∀ x ∈ l, LightOk x) ?_ ?_ ?_ v
  · intro k i r t l ih
    exact light_step _ ih
  · intro x hx; cases hx
  · intro a l ha hl x hx
    rcases List.mem_cons.1 hx with rfl | hx
    · exact ha
    · exact hl x hx
/-- Light enough. -/
def V.isLight (v : V) : Bool := decide (0 ≤ v.light 0 3000)
set_option maxRecDepth 100000 in
theorem Light_ok {w : World} {F : Nat → Prop} {v : V} {cs : List Value} (h : VIs w F v cs) : Calls Try.prog 15 #[.agg cs.toArray] w fun e w' => e = .returned (.bool v.isLight) ∧ Only [] w w' := by
  have H := Lib.hid h
  obtain ⟨k, i, r, t, a, n, cap, rfl⟩ := h.five
  clear h
  have HT := Lib.hid (light_ok v _ F _ 0 3000 (H.out.only0 (w' := w.alloc (.cells #[iv k, iv i, fv r, .string t, .slice a n cap] 33)) ((Only.refl _ w).alloc _)) (by omega) (by omega) (by omega))
  unfold V.isLight
  go_enter Try.func15, Try.ntmps15
  go_wp2_with fail
  refine HT.out.mono ?_
  clear HT
  rintro e w2 ⟨rfl, ho⟩
  have HO := Lib.hid (((Only.refl _ w).alloc _).trans ho)
  clear ho
  go_wp2
  exact bodyPost_ret (results_tmp rfl _ _ _) rfl ⟨rfl, HO.out⟩
end Go.Proofs.Ytffdfegelgpniaa
