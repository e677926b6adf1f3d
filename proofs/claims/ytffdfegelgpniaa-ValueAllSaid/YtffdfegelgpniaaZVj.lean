/-
  Compare, Same, Size of values.
-/
import Derived.Test.YtffdfegelgpniaaZVi
import Derived.Test.YtffdfegelgpniaaZEach
set_option linter.unusedSimpArgs false
set_option linter.unusedVariables false
set_option linter.unusedSimpArgs false
set_option linter.unusedVariables false
namespace Go.Proofs.Ytffdfegelgpniaa
open Go.RowKit Go.Fl

theorem OkI.only {w w' : World} {F : Nat → Prop} {x : Option I} {v : Value} (h : OkI w F x v) (ho : Only [] w w') : OkI w' F x v := by
  cases x with
  | none => exact h
  | some x =>
    obtain ⟨u, e, hi⟩ := h
    exact ⟨u, e, hi.only0 ho⟩
theorem OkI.mono {w : World} {F F' : Nat → Prop} {x : Option I} {v : Value} (h : OkI w F x v) (hF : ∀ g, F g → F' g) : OkI w F' x v := by
  cases x with
  | none => exact h
  | some x =>
    obtain ⟨u, e, hi⟩ := h
    exact ⟨u, e, hi.mono hF⟩
/-- How two values stand. -/
def V.cmp (a b : V) : Int :=
  match a.item, b.item with
  | none, none => 0
  | none, some _ => 1
  | some _, none => -1
  | some x, some y => x.cmp y
set_option maxRecDepth 100000 in
set_option maxHeartbeats 1600000 in
theorem compare_ok {w : World} {F G : Nat → Prop} {a b : V} {cs ds : List Value} (ha : VIs w F a cs) (hb : VIs w G b ds) : Calls Try.prog 20 #[.agg cs.toArray, .agg ds.toArray] w fun e w' => e = .returned (iv (a.cmp b)) ∧ Only [] w w' := by
  have HA := Lib.hid ha
  have HB := Lib.hid hb
  obtain ⟨k, i, r, t, s, n, cap, rfl⟩ := ha.five
  obtain ⟨k2, i2, r2, t2, s2, n2, cap2, rfl⟩ := hb.five
  clear ha hb
  have HO := Lib.hid (show Only [] w ((w.alloc (.cells #[iv k, iv i, fv r, .string t, .slice s n cap] 33)).alloc (.cells #[iv k2, iv i2, fv r2, .string t2, .slice s2 n2 cap2] 33)) from ((Only.refl _ w).alloc _).alloc _)
  have HB1 := Lib.hid (show Blk ((w.alloc (.cells #[iv k, iv i, fv r, .string t, .slice s n cap] 33)).alloc (.cells #[iv k2, iv i2, fv r2, .string t2, .slice s2 n2 cap2] 33)) w.heap.size 33 _ from (Blk.new _ _ _).alloc _)
  have HB2 := Lib.hid (show Blk ((w.alloc (.cells #[iv k, iv i, fv r, .string t, .slice s n cap] 33)).alloc (.cells #[iv k2, iv i2, fv r2, .string t2, .slice s2 n2 cap2] 33)) (w.heap.size + 1) 33 #[iv k2, iv i2, fv r2, .string t2, .slice s2 n2 cap2] by have := Blk.new (w.alloc (.cells #[iv k, iv i, fv r, .string t, .slice s n cap] 33)) 33 #[iv k2, iv i2, fv r2, .string t2, .slice s2 n2 cap2]; simpa using this)
  go_enter Try.func20, Try.ntmps20
  go_wp2
  generalize (w.alloc (.cells #[iv k, iv i, fv r, .string t, .slice s n cap] 33)).alloc (.cells #[iv k2, iv i2, fv r2, .string t2, .slice s2 n2 cap2] 33) = w0 at *
  refine Lex.wp_region_each (by kernel_rfl) [[], [0], [], [2], [1], [3]] (by kernel_rfl) (by rfl) (fun a b => Only [] a b) (Only.refl _) (fun _ _ _ => Only.trans)
    (fun q v w' => match q with
      | 0 => v = .agg #[iv k, iv i, fv r, .string t, .slice s n cap]
      | 2 => v = .agg #[iv k2, iv i2, fv r2, .string t2, .slice s2 n2 cap2]
      | 1 => OkI w' (fun _ => True) a.item v
      | 3 => OkI w' (fun _ => True) b.item v
      | 4 => OkI w' (fun _ => True) a.item v
      | _ => OkI w' (fun _ => True) b.item v) ?_ ?_ ?_
  · intro i v w1 w2 h ho
    match i, h with
    | 0, h => exact h
    | 1, h => exact OkI.only h ho
    | 2, h => exact h
    | 3, h => exact OkI.only h ho
    | 4, h => exact OkI.only h ho
    | n + 5, h => exact OkI.only h ho
  · intro j o ho w1 hR
    have HR := Lib.hid hR
    clear hR
    rcases j with _ | _ | _ | _ | _ | _ | j
    · injection ho with ho
      subst ho
      have hb := HB1.out.drew.only HR.out (by simp)
      have x0 := hb.cell 0
      have x1 := hb.cell 1
      have x2 := hb.cell 2
      have x3 := hb.cell 3
      have x4 := hb.cell 4
      simp at x0 x1 x2 x3 x4
      clear hb
      show wpList _ _ _ _ _ _
      go_wp2
      exact ⟨rfl, Only.refl _ _, rfl⟩
    · injection ho with ho
      subst ho
      intro v hv
      obtain rfl : v = .agg #[iv k, iv i, fv r, .string t, .slice s n cap] := hv
      simp only [Lex.dstOf, List.getElem?_cons_zero, List.getElem?_cons_succ, Option.bind_some]
      have HT := Lib.hid (made_ok (HA.out.only0 (HO.out.drew.trans HR.out)))
      show wpList _ _ _ _ _ _
      go_wp2_with fail
      refine HT.out.mono ?_
      clear HT
      rintro e w2 ⟨u, rfl, hu, ho⟩
      go_wp2
      exact ⟨hu.mono fun _ _ => trivial, ho, rfl⟩
    · injection ho with ho
      subst ho
      have hb := HB2.out.drew.only HR.out (by simp)
      have x0 := hb.cell 0
      have x1 := hb.cell 1
      have x2 := hb.cell 2
      have x3 := hb.cell 3
      have x4 := hb.cell 4
      simp at x0 x1 x2 x3 x4
      clear hb
      show wpList _ _ _ _ _ _
      go_wp2
      exact ⟨rfl, Only.refl _ _, rfl⟩
    · injection ho with ho
      subst ho
      intro v hv
      obtain rfl : v = .agg #[iv k2, iv i2, fv r2, .string t2, .slice s2 n2 cap2] := hv
      simp only [Lex.dstOf, List.getElem?_cons_zero, List.getElem?_cons_succ, Option.bind_some]
      have HT := Lib.hid (made_ok (HB.out.only0 (HO.out.drew.trans HR.out)))
      show wpList _ _ _ _ _ _
      go_wp2_with fail
      refine HT.out.mono ?_
      clear HT
      rintro e w2 ⟨u, rfl, hu, ho⟩
      go_wp2
      exact ⟨hu.mono fun _ _ => trivial, ho, rfl⟩
    · injection ho with ho
      subst ho
      intro v hv
      have HV := Lib.hid hv
      clear hv
      simp only [Lex.dstOf, List.getElem?_cons_zero, List.getElem?_cons_succ, Option.bind_some]
      show wpList _ _ _ _ _ _
      go_wp2
      exact ⟨HV.out, Only.refl _ _, rfl⟩
    · injection ho with ho
      subst ho
      intro v hv
      have HV := Lib.hid hv
      clear hv
      simp only [Lex.dstOf, List.getElem?_cons_zero, List.getElem?_cons_succ, Option.bind_some]
      show wpList _ _ _ _ _ _
      go_wp2
      exact ⟨HV.out, Only.refl _ _, rfl⟩
    · cases ho
  · intro w1 hR
    have HR := Lib.hid (HO.out.drew.trans hR)
    clear hR
    show ∀ v0, _ → ∀ v1, _ → ∀ v2, _ → ∀ v3, _ → ∀ v4, _ → ∀ v5, _ → _
    intro v0 h0 v1 h1 v2 h2 v3 h3 v4 h4 v5 h5
    obtain rfl : v0 = _ := h0
    obtain rfl : v2 = _ := h2
    clear h1 h3
    simp only [Lex.dstOf, List.getElem?_cons_zero, List.getElem?_cons_succ, Option.bind_some]
    have h4 : OkI w1 (fun _ => True) a.item v4 := h4
    have h5 : OkI w1 (fun _ => True) b.item v5 := h5
    show Exit.then _ _ _ _ _
    have HE := Lib.hid (show a.cmp b = match a.item, b.item with | none, none => 0 | none, some _ => 1 | some _, none => -1 | some x, some y => x.cmp y from rfl)
    cases hx : a.item with
    | none =>
      rw [hx] at h4 HE
      obtain rfl : v4 = .nilIface := h4
      clear hx
      cases hy : b.item with
      | none =>
        rw [hy] at h5 HE
        obtain rfl : v5 = .nilIface := h5
        clear hy
        go_wp2
        refine bodyPost_ret (results_tmp rfl _ _ _) rfl ⟨?_, HR.out⟩
        exact congrArg (fun z => Ending.returned (iv z)) HE.out.symm
      | some y =>
        rw [hy] at h5 HE
        obtain ⟨u, rfl, _⟩ := h5
        clear hy
        go_wp2
        refine bodyPost_ret (results_tmp rfl _ _ _) rfl ⟨?_, HR.out⟩
        exact congrArg (fun z => Ending.returned (iv z)) HE.out.symm
    | some x =>
      rw [hx] at h4 HE
      obtain ⟨u, rfl, hux⟩ := h4
      clear hx
      cases hy : b.item with
      | none =>
        rw [hy] at h5 HE
        obtain rfl : v5 = .nilIface := h5
        clear hy
        go_wp2
        refine bodyPost_ret (results_tmp rfl _ _ _) rfl ⟨?_, HR.out⟩
        exact congrArg (fun z => Ending.returned (iv z)) HE.out.symm
      | some y =>
        rw [hy] at h5 HE
        obtain ⟨u2, rfl, huy⟩ := h5
        have HC := Lib.hid (cmp_ok x w1 _ _ u u2 y hux huy)
        clear hy hux huy
        go_wp2_with fail
        refine HC.out.mono ?_
        clear HC
        rintro e w2 ⟨rfl, ho⟩
        have HO2 := Lib.hid (HR.out.trans ho)
        clear ho
        go_wp2
        refine bodyPost_ret (results_tmp rfl _ _ _) rfl ⟨?_, HO2.out⟩
        exact congrArg (fun z => Ending.returned (iv z)) HE.out.symm
/-- May both be, and are they alike? -/
def V.same (a b : V) : Bool :=
  match a.item, b.item with
  | some x, some y => x.cmp y == 0
  | _, _ => false
set_option maxRecDepth 100000 in
set_option maxHeartbeats 1600000 in
theorem same_ok {w : World} {F G : Nat → Prop} {a b : V} {cs ds : List Value} (ha : VIs w F a cs) (hb : VIs w G b ds) : Calls Try.prog 23 #[.agg cs.toArray, .agg ds.toArray] w fun e w' => e = .returned (.bool (a.same b)) ∧ Only [] w w' := by
  have HA := Lib.hid ha
  have HB := Lib.hid hb
  obtain ⟨k, i, r, t, s, n, cap, rfl⟩ := ha.five
  obtain ⟨k2, i2, r2, t2, s2, n2, cap2, rfl⟩ := hb.five
  clear ha hb
  have HO := Lib.hid (show Only [] w ((w.alloc (.cells #[iv k, iv i, fv r, .string t, .slice s n cap] 33)).alloc (.cells #[iv k2, iv i2, fv r2, .string t2, .slice s2 n2 cap2] 33)) from ((Only.refl _ w).alloc _).alloc _)
  have HB1 := Lib.hid (show Blk ((w.alloc (.cells #[iv k, iv i, fv r, .string t, .slice s n cap] 33)).alloc (.cells #[iv k2, iv i2, fv r2, .string t2, .slice s2 n2 cap2] 33)) w.heap.size 33 _ from (Blk.new _ _ _).alloc _)
  have HB2 := Lib.hid (show Blk ((w.alloc (.cells #[iv k, iv i, fv r, .string t, .slice s n cap] 33)).alloc (.cells #[iv k2, iv i2, fv r2, .string t2, .slice s2 n2 cap2] 33)) (w.heap.size + 1) 33 #[iv k2, iv i2, fv r2, .string t2, .slice s2 n2 cap2] by have := Blk.new (w.alloc (.cells #[iv k, iv i, fv r, .string t, .slice s n cap] 33)) 33 #[iv k2, iv i2, fv r2, .string t2, .slice s2 n2 cap2]; simpa using this)
  go_enter Try.func23, Try.ntmps23
  go_wp2
  generalize (w.alloc (.cells #[iv k, iv i, fv r, .string t, .slice s n cap] 33)).alloc (.cells #[iv k2, iv i2, fv r2, .string t2, .slice s2 n2 cap2] 33) = w0 at *
  refine Lex.wp_region_each (by kernel_rfl) [[], [0], [], [2], [1], [3]] (by kernel_rfl) (by rfl) (fun a b => Only [] a b) (Only.refl _) (fun _ _ _ => Only.trans)
    (fun q v w' => match q with
      | 0 => v = .agg #[iv k, iv i, fv r, .string t, .slice s n cap]
      | 2 => v = .agg #[iv k2, iv i2, fv r2, .string t2, .slice s2 n2 cap2]
      | 1 => OkI w' (fun _ => True) a.item v
      | 3 => OkI w' (fun _ => True) b.item v
      | 4 => OkI w' (fun _ => True) a.item v
      | _ => OkI w' (fun _ => True) b.item v) ?_ ?_ ?_
  · intro i v w1 w2 h ho
    match i, h with
    | 0, h => exact h
    | 1, h => exact OkI.only h ho
    | 2, h => exact h
    | 3, h => exact OkI.only h ho
    | 4, h => exact OkI.only h ho
    | n + 5, h => exact OkI.only h ho
  · intro j o ho w1 hR
    have HR := Lib.hid hR
    clear hR
    rcases j with _ | _ | _ | _ | _ | _ | j
    · injection ho with ho
      subst ho
      have hb := HB1.out.drew.only HR.out (by simp)
      have x0 := hb.cell 0
      have x1 := hb.cell 1
      have x2 := hb.cell 2
      have x3 := hb.cell 3
      have x4 := hb.cell 4
      simp at x0 x1 x2 x3 x4
      clear hb
      show wpList _ _ _ _ _ _
      go_wp2
      exact ⟨rfl, Only.refl _ _, rfl⟩
    · injection ho with ho
      subst ho
      intro v hv
      obtain rfl : v = .agg #[iv k, iv i, fv r, .string t, .slice s n cap] := hv
      simp only [Lex.dstOf, List.getElem?_cons_zero, List.getElem?_cons_succ, Option.bind_some]
      have HT := Lib.hid (made_ok (HA.out.only0 (HO.out.drew.trans HR.out)))
      show wpList _ _ _ _ _ _
      go_wp2_with fail
      refine HT.out.mono ?_
      clear HT
      rintro e w2 ⟨u, rfl, hu, ho⟩
      go_wp2
      exact ⟨hu.mono fun _ _ => trivial, ho, rfl⟩
    · injection ho with ho
      subst ho
      have hb := HB2.out.drew.only HR.out (by simp)
      have x0 := hb.cell 0
      have x1 := hb.cell 1
      have x2 := hb.cell 2
      have x3 := hb.cell 3
      have x4 := hb.cell 4
      simp at x0 x1 x2 x3 x4
      clear hb
      show wpList _ _ _ _ _ _
      go_wp2
      exact ⟨rfl, Only.refl _ _, rfl⟩
    · injection ho with ho
      subst ho
      intro v hv
      obtain rfl : v = .agg #[iv k2, iv i2, fv r2, .string t2, .slice s2 n2 cap2] := hv
      simp only [Lex.dstOf, List.getElem?_cons_zero, List.getElem?_cons_succ, Option.bind_some]
      have HT := Lib.hid (made_ok (HB.out.only0 (HO.out.drew.trans HR.out)))
      show wpList _ _ _ _ _ _
      go_wp2_with fail
      refine HT.out.mono ?_
      clear HT
      rintro e w2 ⟨u, rfl, hu, ho⟩
      go_wp2
      exact ⟨hu.mono fun _ _ => trivial, ho, rfl⟩
    · injection ho with ho
      subst ho
      intro v hv
      have HV := Lib.hid hv
      clear hv
      simp only [Lex.dstOf, List.getElem?_cons_zero, List.getElem?_cons_succ, Option.bind_some]
      show wpList _ _ _ _ _ _
      go_wp2
      exact ⟨HV.out, Only.refl _ _, rfl⟩
    · injection ho with ho
      subst ho
      intro v hv
      have HV := Lib.hid hv
      clear hv
      simp only [Lex.dstOf, List.getElem?_cons_zero, List.getElem?_cons_succ, Option.bind_some]
      show wpList _ _ _ _ _ _
      go_wp2
      exact ⟨HV.out, Only.refl _ _, rfl⟩
    · cases ho
  · intro w1 hR
    have HR := Lib.hid (HO.out.drew.trans hR)
    clear hR
    show ∀ v0, _ → ∀ v1, _ → ∀ v2, _ → ∀ v3, _ → ∀ v4, _ → ∀ v5, _ → _
    intro v0 h0 v1 h1 v2 h2 v3 h3 v4 h4 v5 h5
    obtain rfl : v0 = _ := h0
    obtain rfl : v2 = _ := h2
    clear h1 h3
    simp only [Lex.dstOf, List.getElem?_cons_zero, List.getElem?_cons_succ, Option.bind_some]
    have h4 : OkI w1 (fun _ => True) a.item v4 := h4
    have h5 : OkI w1 (fun _ => True) b.item v5 := h5
    show Exit.then _ _ _ _ _
    have HE := Lib.hid (show a.same b = match a.item, b.item with | some x, some y => x.cmp y == 0 | _, _ => false from rfl)
    cases hx : a.item with
    | none =>
      rw [hx] at h4 HE
      obtain rfl : v4 = .nilIface := h4
      clear hx
      go_wp2
      refine bodyPost_ret (results_tmp rfl _ _ _) rfl ⟨?_, HR.out⟩
      exact congrArg (fun z => Ending.returned (.bool z)) HE.out.symm
    | some x =>
      rw [hx] at h4 HE
      obtain ⟨u, rfl, hux⟩ := h4
      clear hx
      cases hy : b.item with
      | none =>
        rw [hy] at h5 HE
        obtain rfl : v5 = .nilIface := h5
        clear hy
        go_wp2
        refine bodyPost_ret (results_tmp rfl _ _ _) rfl ⟨?_, HR.out⟩
        exact congrArg (fun z => Ending.returned (.bool z)) HE.out.symm
      | some y =>
        rw [hy] at h5 HE
        obtain ⟨u2, rfl, huy⟩ := h5
        have HC := Lib.hid (cmp_ok x w1 _ _ u u2 y hux huy)
        clear hy hux huy
        go_wp2_with fail
        refine HC.out.mono ?_
        clear HC
        rintro e w2 ⟨rfl, ho⟩
        have HO2 := Lib.hid (HR.out.trans ho)
        clear ho
        go_wp2
        refine bodyPost_ret (results_tmp rfl _ _ _) rfl ⟨?_, HO2.out⟩
        exact congrArg (fun z => Ending.returned (.bool z)) HE.out.symm
mutual
theorem take_size : ∀ (v : V) (nest : Nat) (room : Int) (x : I), (v.take nest room).1 = some x → (x.size : Int) + (v.take nest room).2 = room
  | .mk k i r t l, nest, room, x, h => by
    unfold V.take at h ⊢
    by_cases hb : bad k i r t l.length (room - 1) = true
    · rw [if_pos hb] at h; cases h
    rw [if_neg hb] at h ⊢
    by_cases k1 : k = 1
    · rw [if_pos k1] at h ⊢; injection h with h; subst h; show (1 : Int) + (room - 1) = room; omega
    rw [if_neg k1] at h ⊢
    by_cases k2 : k = 2
    · rw [if_pos k2] at h ⊢
      split at h
      · rename_i hi; rw [if_pos hi]; injection h with h; subst h; show (1 : Int) + (room - 1) = room; omega
      · cases h
    rw [if_neg k2] at h ⊢
    by_cases k3 : k = 3
    · rw [if_pos k3] at h ⊢; injection h with h; subst h; show (1 : Int) + (room - 1) = room; omega
    rw [if_neg k3] at h ⊢
    by_cases k4 : k = 4
    · rw [if_pos k4] at h ⊢; injection h with h; subst h; show (1 : Int) + (room - 1) = room; omega
    rw [if_neg k4] at h ⊢
    by_cases k5 : k = 5
    · rw [if_pos k5] at h ⊢
      split at h
      · rename_i hi; rw [if_pos hi]; injection h with h; subst h; show ((1 + t.size : Nat) : Int) + (room - 1 - t.size) = room; omega
      · cases h
    rw [if_neg k5] at h ⊢
    by_cases k6 : k = 6
    · rw [if_pos k6] at h ⊢
      split at h
      · cases h
      · rename_i hi
        rw [if_neg hi]
        cases hl : takes l (nest + 1) (room - 1) with
        | mk a b =>
          rw [hl] at h
          cases a with
          | none => cases h
          | some xs =>
            have := takes_size l (nest + 1) (room - 1) xs (by rw [hl])
            rw [hl] at this
            injection h with h
            subst h
            show ((1 + sizes xs : Nat) : Int) + b = room
            simp at this
            omega
    rw [if_neg k6] at h
    cases h
theorem takes_size : ∀ (l : List V) (nest : Nat) (room : Int) (xs : List I), (takes l nest room).1 = some xs → (sizes xs : Int) + (takes l nest room).2 = room
  | [], _, room, xs, h => by
    simp [takes] at h
    subst h
    simp [takes, sizes]
  | v :: l, nest, room, xs, h => by
    cases hh : v.take nest room with
    | mk a b =>
      cases a with
      | none => simp [takes, hh] at h
      | some x =>
        have h1 := take_size v nest room x (by rw [hh])
        rw [hh] at h1
        simp only [takes, hh] at h ⊢
        cases hl : takes l nest b with
        | mk c d =>
          rw [hl] at h
          cases c with
          | none => simp at h
          | some ys =>
            have h2 := takes_size l nest b ys (by rw [hl])
            rw [hl] at h2
            simp at h
            subst h
            simp only [sizes]
            simp at h1 h2 ⊢
            omega
end
theorem item_size {v : V} {x : I} (h : v.item = some x) : x.size ≤ 65536 := by
  have h1 := take_size v 0 65536 x h
  have h2 := V.take_room v 0 65536 x h
  omega
/-- The size of a value that may be, else 0. -/
def V.size (v : V) : Nat := match v.item with | none => 0 | some x => x.size
set_option maxRecDepth 100000 in
theorem vsize_ok {w : World} {F : Nat → Prop} {v : V} {cs : List Value} (h : VIs w F v cs) : Calls Try.prog 21 #[.agg cs.toArray] w fun e w' => e = .returned (iv v.size) ∧ Only [] w w' := by
  have H := Lib.hid h
  obtain ⟨k, i, r, t, a, n, cap, rfl⟩ := h.five
  clear h
  have HT := Lib.hid (made_ok (H.out.only0 (w' := w.alloc (.cells #[iv k, iv i, fv r, .string t, .slice a n cap] 33)) ((Only.refl _ w).alloc _)))
  have HE := Lib.hid (show v.size = match v.item with | none => 0 | some x => x.size from rfl)
  go_enter Try.func21, Try.ntmps21
  go_wp2_with fail
  refine HT.out.mono ?_
  clear HT
  rintro e w2 ⟨u, rfl, hu, ho⟩
  have HO := Lib.hid (((Only.refl _ w).alloc _).trans ho)
  clear ho
  cases hr : v.item with
  | none =>
    rw [hr] at hu HE
    obtain rfl : u = .nilIface := hu
    clear hr
    go_wp2
    refine bodyPost_ret (results_tmp rfl _ _ _) rfl ⟨?_, HO.out⟩
    exact congrArg (fun z : Nat => Ending.returned (iv z)) HE.out.symm
  | some x =>
    rw [hr] at hu HE
    obtain ⟨u', rfl, hx⟩ := hu
    have HS := Lib.hid (size_ok x w2 _ u' hx (item_size hr))
    have hm1 := m_size hx
    have hm2 := c_size x
    clear hr hx
    go_wp2_with fail
    refine HS.out.mono ?_
    clear HS hm1 hm2
    rintro e w3 ⟨rfl, ho⟩
    have HO2 := Lib.hid (HO.out.trans ho)
    clear ho
    go_wp2
    refine bodyPost_ret (results_tmp rfl _ _ _) rfl ⟨?_, HO2.out⟩
    exact congrArg (fun z : Nat => Ending.returned (iv z)) HE.out.symm
end Go.Proofs.Ytffdfegelgpniaa
