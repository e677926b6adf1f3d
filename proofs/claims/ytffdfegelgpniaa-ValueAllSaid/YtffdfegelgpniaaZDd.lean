/-
  The document's order of values: lists; Compare, Same.
-/
import Derived.Test.YtffdfegelgpniaaMk
import Derived.Test.YtffdfegelgpniaaMb
set_option linter.unusedSimpArgs false
set_option linter.unusedVariables false
set_option linter.unusedSimpArgs false
set_option linter.unusedVariables false
namespace Go.Proofs.Ytffdfegelgpniaa
open Go.RowKit Go.Fl

mutual
/-- How the document says that two values stand. -/
def V.ord : V → V → Int
  | .mk k i r t l, u => match u with | .mk k2 i2 r2 t2 l2 => if k ≠ k2 then cmpI k k2 else if k = 2 ∨ k = 3 then cmpI i i2 else if k = 4 then cmpI (keyR r) (keyR r2) else if k = 5 then Lib.compareBytes t.data.toList t2.data.toList else ords l l2
def ords : List V → List V → Int
  | [], m => cmpI 0 m.length
  | a :: l, m => match m with | [] => 1 | b :: m => if a.ord b ≠ 0 then a.ord b else ords l m
end
theorem ords_nil (l m : List V) (h : l = [] ∨ m = []) : ords l m = cmpI l.length m.length := by
  cases l with
  | nil => unfold ords; rfl
  | cons a l =>
    cases m with
    | nil =>
      unfold ords
      unfold cmpI
      simp only [List.length_cons, List.length_nil]
      rw [if_neg (by omega), if_pos (by omega)]
    | cons b m => simp at h
theorem ords_drop {l m : List V} {n : Nat} (h1 : n < l.length) (h2 : n < m.length) : ords (l.drop n) (m.drop n) = if l[n].ord m[n] ≠ 0 then l[n].ord m[n] else ords (l.drop (n + 1)) (m.drop (n + 1)) := by
  rw [List.drop_eq_getElem_cons h1, List.drop_eq_getElem_cons h2]
  conv => lhs; unfold ords
theorem take_form {k i : Int} {r : Nat} {t : ByteArray} {l : List V} {nest : Nat} {room : Int} {x : I} (h : ((V.mk k i r t l).take nest room).1 = some x) :
    (k = 1 ∧ x = .void ∧ l = []) ∨ (k = 2 ∧ x = .truth i) ∨ (k = 3 ∧ x = .whole i) ∨ (k = 4 ∧ x = .number r) ∨ (k = 5 ∧ x = .text t) ∨ (k = 6 ∧ ∃ xs, x = .list xs ∧ (takes l (nest + 1) (room - 1)).1 = some xs) := by
  unfold V.take at h
  by_cases hb : bad k i r t l.length (room - 1) = true
  · rw [if_pos hb] at h; cases h
  rw [if_neg hb] at h
  by_cases k1 : k = 1
  · rw [if_pos k1] at h
    injection h with h
    unfold bad at hb
    simp only [Bool.or_eq_true, Bool.and_eq_true, decide_eq_true_eq] at hb
    exact .inl ⟨k1, h.symm, List.length_eq_zero_iff.1 (by omega)⟩
  rw [if_neg k1] at h
  by_cases k2 : k = 2
  · rw [if_pos k2] at h
    split at h
    · injection h with h; exact .inr (.inl ⟨k2, h.symm⟩)
    · cases h
  rw [if_neg k2] at h
  by_cases k3 : k = 3
  · rw [if_pos k3] at h; injection h with h; exact .inr (.inr (.inl ⟨k3, h.symm⟩))
  rw [if_neg k3] at h
  by_cases k4 : k = 4
  · rw [if_pos k4] at h; injection h with h; exact .inr (.inr (.inr (.inl ⟨k4, h.symm⟩)))
  rw [if_neg k4] at h
  by_cases k5 : k = 5
  · rw [if_pos k5] at h
    split at h
    · injection h with h; exact .inr (.inr (.inr (.inr (.inl ⟨k5, h.symm⟩))))
    · cases h
  rw [if_neg k5] at h
  by_cases k6 : k = 6
  · rw [if_pos k6] at h
    split at h
    · cases h
    · cases hh : (takes l (nest + 1) (room - 1)).1 with
      | none => simp only [hh] at h; cases h
      | some xs =>
        simp only [hh] at h
        injection h with h
        exact .inr (.inr (.inr (.inr (.inr ⟨k6, xs, h.symm, rfl⟩))))
  · rw [if_neg k6] at h; cases h
mutual
theorem take_ord : ∀ (v u : V) (n1 n2 : Nat) (r1 r2 : Int) (x y : I), (v.take n1 r1).1 = some x → (u.take n2 r2).1 = some y → v.ord u = x.cmp y
  | .mk k i r t l, .mk k2 i2 r2 t2 l2, n1, n2, m1, m2, x, y, hx, hy => by
    unfold V.ord
    dsimp only
    have hkx : x.kind = k := by
      rcases take_form hx with ⟨a, rfl, _⟩ | ⟨a, rfl⟩ | ⟨a, rfl⟩ | ⟨a, rfl⟩ | ⟨a, rfl⟩ | ⟨a, _, rfl, _⟩ <;> exact a.symm
    have hky : y.kind = k2 := by
      rcases take_form hy with ⟨a, rfl, _⟩ | ⟨a, rfl⟩ | ⟨a, rfl⟩ | ⟨a, rfl⟩ | ⟨a, rfl⟩ | ⟨a, _, rfl, _⟩ <;> exact a.symm
    by_cases hk : k = k2
    · rw [if_neg (by simpa using hk)]
      rcases take_form hx with ⟨a, rfl, b⟩ | ⟨a, rfl⟩ | ⟨a, rfl⟩ | ⟨a, rfl⟩ | ⟨a, rfl⟩ | ⟨a, xs, rfl, b⟩
      · rcases take_form hy with ⟨c, rfl, d⟩ | ⟨c, _⟩ | ⟨c, _⟩ | ⟨c, _⟩ | ⟨c, _⟩ | ⟨c, _⟩
        · subst b
          subst d
          rw [if_neg (by omega), if_neg (by omega), if_neg (by omega), ords_nil _ _ (.inl rfl)]
          rfl
        all_goals omega
      · rcases take_form hy with ⟨c, _⟩ | ⟨c, rfl⟩ | ⟨c, _⟩ | ⟨c, _⟩ | ⟨c, _⟩ | ⟨c, _⟩
        · omega
        · rw [if_pos (.inl a)]; rfl
        all_goals omega
      · rcases take_form hy with ⟨c, _⟩ | ⟨c, _⟩ | ⟨c, rfl⟩ | ⟨c, _⟩ | ⟨c, _⟩ | ⟨c, _⟩
        · omega
        · omega
        · rw [if_pos (.inr a)]; rfl
        all_goals omega
      · rcases take_form hy with ⟨c, _⟩ | ⟨c, _⟩ | ⟨c, _⟩ | ⟨c, rfl⟩ | ⟨c, _⟩ | ⟨c, _⟩
        · omega
        · omega
        · omega
        · rw [if_neg (by omega), if_pos a]; rfl
        all_goals omega
      · rcases take_form hy with ⟨c, _⟩ | ⟨c, _⟩ | ⟨c, _⟩ | ⟨c, _⟩ | ⟨c, rfl⟩ | ⟨c, _⟩
        · omega
        · omega
        · omega
        · omega
        · rw [if_neg (by omega), if_neg (by omega), if_pos a]; rfl
        · omega
      · rcases take_form hy with ⟨c, _⟩ | ⟨c, _⟩ | ⟨c, _⟩ | ⟨c, _⟩ | ⟨c, _⟩ | ⟨c, ys, rfl, d⟩
        · omega
        · omega
        · omega
        · omega
        · omega
        · rw [if_neg (by omega), if_neg (by omega), if_neg (by omega)]
          exact takes_ord l l2 _ _ _ _ xs ys b d
    · rw [if_pos hk, cmp_kind (by rw [hkx, hky]; exact hk), hkx, hky]
theorem takes_ord : ∀ (l m : List V) (n1 n2 : Nat) (r1 r2 : Int) (xs ys : List I), (takes l n1 r1).1 = some xs → (takes m n2 r2).1 = some ys → ords l m = cmps xs ys
  | [], m, n1, n2, r1, r2, xs, ys, hx, hy => by
    simp [takes] at hx
    subst hx
    have := takes_eq m n2 r2 ys hy
    unfold ords cmps
    rw [this]
  | a :: l, m, n1, n2, r1, r2, xs, ys, hx, hy => by
    cases hh : a.take n1 r1 with
    | mk p q =>
      cases p with
      | none => simp [takes, hh] at hx
      | some x =>
        simp only [takes, hh] at hx
        cases hl : (takes l n1 q).1 with
        | none => rw [hl] at hx; cases hx
        | some xs' =>
          rw [hl] at hx
          injection hx with hx
          subst hx
          cases m with
          | nil =>
            simp [takes] at hy
            subst hy
            unfold ords cmps
            rfl
          | cons b m =>
            cases hh2 : b.take n2 r2 with
            | mk p2 q2 =>
              cases p2 with
              | none => simp [takes, hh2] at hy
              | some y =>
                simp only [takes, hh2] at hy
                cases hl2 : (takes m n2 q2).1 with
                | none => rw [hl2] at hy; cases hy
                | some ys' =>
                  rw [hl2] at hy
                  injection hy with hy
                  subst hy
                  unfold ords cmps
                  dsimp only
                  rw [take_ord a b n1 n2 r1 r2 x y (by rw [hh]) (by rw [hh2]), takes_ord l m n1 n2 q q2 xs' ys' hl hl2]
theorem takes_eq : ∀ (l : List V) (nest : Nat) (room : Int) (xs : List I), (takes l nest room).1 = some xs → l.length = xs.length
  | [], nest, room, xs, h => by simp [takes] at h; subst h; rfl
  | v :: l, nest, room, xs, h => by
    cases hh : v.take nest room with
    | mk a b =>
      cases a with
      | none => simp [takes, hh] at h
      | some y =>
        simp only [takes, hh] at h
        cases hl : (takes l nest b).1 with
        | none => rw [hl] at h; cases h
        | some ys =>
          rw [hl] at h
          injection h with h
          subst h
          simp [takes_eq l nest b ys hl]
end
theorem item_ord {v u : V} {x y : I} (hx : v.item = some x) (hy : u.item = some y) : v.ord u = x.cmp y := take_ord v u 0 0 65536 65536 x y hx hy
def OrdOk (a : V) : Prop := ∀ (w : World) (F G : Nat → Prop) (b : V) (cs ds : List Value), VIs w F a cs → VIs w G b ds → Calls Try.prog 47 #[.agg cs.toArray, .agg ds.toArray] w fun e w' => e = .returned (iv (a.ord b)) ∧ Only [] w w'
set_option maxRecDepth 100000 in
set_option maxHeartbeats 3200000 in
theorem ord_step (v : V) (H : ∀ x ∈ v.kids, OrdOk x) : OrdOk v := by
  intro w F G b cs ds hv hb
  cases hv with
  | @mk k i r t l a cap css wk wi wr0 wt hlen hmax hcell hvs =>
  cases hb with
  | @mk k2 i2 r2 t2 l2 a2 cap2 css2 wk2 wi2 wr2 wt2 hlen2 hmax2 hcell2 hvs2 =>
  have HC := Lib.hid hcell
  have HV := Lib.hid hvs
  have HC2 := Lib.hid hcell2
  have HV2 := Lib.hid hvs2
  have HH := Lib.hid H
  clear hcell hvs hcell2 hvs2 H wk wi wk2 wi2
  have hlm : l.length ≤ maxLen := by omega
  have hlm2 : l2.length ≤ maxLen := by omega
  unfold maxLen at hlm hlm2
  have HF0 := Lib.hid (show (V.mk k i r t l).ord (V.mk k2 i2 r2 t2 l2) = if k ≠ k2 then cmpI k k2 else if k = 2 ∨ k = 3 then cmpI i i2 else if k = 4 then cmpI (keyR r) (keyR r2) else if k = 5 then Lib.compareBytes t.data.toList t2.data.toList else ords l l2 from rfl)
  obtain ⟨w0, hw0⟩ : ∃ x : World, x = (w.alloc (.cells #[iv k, iv i, fv r, .string t, .slice a l.length cap] 33)).alloc (.cells #[iv k2, iv i2, fv r2, .string t2, .slice a2 l2.length cap2] 33) := ⟨_, rfl⟩
  have HW0 := Lib.hid hw0
  have HO0 := Lib.hid (show Only [] w w0 by rw [hw0]; exact ((Only.refl _ w).alloc _).alloc _)
  have HB1 := Lib.hid (show Blk w0 w.heap.size 33 #[iv k, iv i, fv r, .string t, .slice a l.length cap] by rw [hw0]; exact (Blk.new _ _ _).alloc _)
  have HB2 := Lib.hid (show Blk w0 (w.heap.size + 1) 33 #[iv k2, iv i2, fv r2, .string t2, .slice a2 l2.length cap2] by rw [hw0]; have := Blk.new (w.alloc (.cells #[iv k, iv i, fv r, .string t, .slice a l.length cap] 33)) 33 #[iv k2, iv i2, fv r2, .string t2, .slice a2 l2.length cap2]; simpa using this)
  clear hw0
  by_cases hk : k = k2
  case neg =>
    have HF := Lib.hid (HF0.out.trans (if_pos hk))
    have hz : (k != k2) = true := by rw [bne_iff_ne]; exact hk
    have HQ := Lib.hid (fun w => number_ok w k k2)
    go_enter Try.func47, Try.ntmps47
    go_wp2_with fail
    rw [← HW0.out]
    refine (HQ.out _).mono ?_
    rintro e w1 ⟨rfl, rfl⟩
    go_wp2
    exact bodyPost_ret (results_tmp rfl _ _ _) rfl ⟨by rw [HF.out]; rfl, HO0.out⟩
  subst hk
  have HF1 := Lib.hid (HF0.out.trans (if_neg (by simp)))
  have hzk : (k != k) = false := by simp
  clear HF0
  by_cases k2 : k = 2
  · subst k2
    have HF := Lib.hid (HF1.out.trans (if_pos (.inl rfl)))
    have HQ := Lib.hid (fun w => number_ok w i i2)
    go_enter Try.func47, Try.ntmps47
    go_wp2_with fail
    rw [← HW0.out]
    refine (HQ.out _).mono ?_
    rintro e w1 ⟨rfl, rfl⟩
    go_wp2
    exact bodyPost_ret (results_tmp rfl _ _ _) rfl ⟨by rw [HF.out]; rfl, HO0.out⟩
  by_cases k3 : k = 3
  · subst k3
    have HF := Lib.hid (HF1.out.trans (if_pos (.inr rfl)))
    have HQ := Lib.hid (fun w => number_ok w i i2)
    go_enter Try.func47, Try.ntmps47
    go_wp2_with fail
    rw [← HW0.out]
    refine (HQ.out _).mono ?_
    rintro e w1 ⟨rfl, rfl⟩
    go_wp2
    exact bodyPost_ret (results_tmp rfl _ _ _) rfl ⟨by rw [HF.out]; rfl, HO0.out⟩
  have HF2 := Lib.hid (HF1.out.trans (if_neg (by omega)))
  have k2z : (k == 2) = false := by rw [beq_eq_false_iff_ne]; exact k2
  have k3z : (k == 3) = false := by rw [beq_eq_false_iff_ne]; exact k3
  clear HF1
  by_cases k4 : k = 4
  · subst k4
    have HF := Lib.hid (HF2.out.trans (if_pos rfl))
    have HQ := Lib.hid (fun w => real2_ok w r r2 wr0 wr2)
    go_enter Try.func47, Try.ntmps47
    go_wp2_with fail
    rw [← HW0.out]
    refine (HQ.out _).mono ?_
    rintro e w1 ⟨rfl, rfl⟩
    go_wp2
    exact bodyPost_ret (results_tmp rfl _ _ _) rfl ⟨by rw [HF.out]; rfl, HO0.out⟩
  have HF3 := Lib.hid (HF2.out.trans (if_neg k4))
  have k4z : (k == 4) = false := by rw [beq_eq_false_iff_ne]; exact k4
  clear HF2
  by_cases k5 : k = 5
  · subst k5
    have HF := Lib.hid (HF3.out.trans (if_pos rfl))
    have HQ := Lib.hid (fun w => texts2_ok w t t2 wt wt2)
    go_enter Try.func47, Try.ntmps47
    go_wp2_with fail
    rw [← HW0.out]
    refine (HQ.out _).mono ?_
    rintro e w1 ⟨rfl, ho⟩
    have HO1 := Lib.hid (HO0.out.trans ho)
    clear ho
    go_wp2
    exact bodyPost_ret (results_tmp rfl _ _ _) rfl ⟨by rw [HF.out]; rfl, HO1.out⟩
  have HF := Lib.hid (HF3.out.trans (if_neg k5))
  have k5z : (k == 5) = false := by rw [beq_eq_false_iff_ne]; exact k5
  clear HF3
  go_enter Try.func47, Try.ntmps47
  go_wp2
  rw [← HW0.out]
  go_loopw [5] (fun z wr => ∃ n : Nat, n ≤ l.length ∧ n ≤ l2.length ∧ z = .int .i64 n ∧ Hid (ords l l2 = ords (l.drop n) (l2.drop n)) ∧ Hid (Only [] w0 wr)) (fun z _ => l.length - (intOf z).toNat)
  case atStart => exact ⟨0, Nat.zero_le _, Nat.zero_le _, rfl, Lib.hid rfl, Lib.hid (Only.refl _ _)⟩
  case round =>
    obtain ⟨n, hn, hn2, rfl, HE, HO⟩ := hrel
    have y4 := (HB1.out.only HO.out (by simp)).cell 4
    have z4 := (HB2.out.only HO.out (by simp)).cell 4
    simp at y4 z4
    by_cases hnl : n < l.length ∧ n < l2.length
    · have hnz : (n : Int) < (l.length : Int) := by omega
      have hn2 : n < l2.length := hnl.2
      have hnl : n < l.length := hnl.1
      have hnz2 : (n : Int) < (l2.length : Int) := by omega
      obtain ⟨g, off, rfl, hg, hFg, hcc⟩ := HC.out (by omega)
      obtain ⟨g2, off2, rfl, hg2, hFg2, hcc2⟩ := HC2.out (by omega)
      have hv := HV.out n hnl
      have hv2 := HV2.out n hn2
      obtain ⟨c0, c1, c2, c3, c4, c5, c6, hcs⟩ := hv.five
      obtain ⟨d0, d1, d2, d3, d4, d5, d6, hds⟩ := hv2.five
      have hx : ∀ c u, (css n)[c]? = some u → wr.cell? ⟨g, off + n * 5 + c, none⟩ = some u := fun c u hu => ((HO0.out.trans HO.out).cell (p := ⟨g, off + n * 5 + c, none⟩) hg (by simp)).trans (hcc n c u hnl hu)
      have hx2 : ∀ c u, (css2 n)[c]? = some u → wr.cell? ⟨g2, off2 + n * 5 + c, none⟩ = some u := fun c u hu => ((HO0.out.trans HO.out).cell (p := ⟨g2, off2 + n * 5 + c, none⟩) hg2 (by simp)).trans (hcc2 n c u hn2 hu)
      have x0 := hx 0 (iv c0) (by rw [hcs]; rfl)
      have x1 := hx 1 (iv c1) (by rw [hcs]; rfl)
      have x2 := hx 2 (fv c2) (by rw [hcs]; rfl)
      have x3 := hx 3 (.string c3) (by rw [hcs]; rfl)
      have x4 := hx 4 (.slice c4 c5 c6) (by rw [hcs]; rfl)
      have w0' := hx2 0 (iv d0) (by rw [hds]; rfl)
      have w1' := hx2 1 (iv d1) (by rw [hds]; rfl)
      have w2' := hx2 2 (fv d2) (by rw [hds]; rfl)
      have w3' := hx2 3 (.string d3) (by rw [hds]; rfl)
      have w4' := hx2 4 (.slice d4 d5 d6) (by rw [hds]; rfl)
      rw [Nat.add_zero] at x0 w0'
      have HT := Lib.hid (HH.out _ (List.getElem_mem hnl) wr.drew F G l2[n] (css n) (css2 n) (hv.only0 (HO0.out.trans HO.out.drew)) (hv2.only0 (HO0.out.trans HO.out.drew)))
      rw [hcs, hds] at HT
      have HS := Lib.hid (ords_drop hnl hn2)
      clear hx hx2 hcc hcc2 HC HC2 hv hv2 hcs hds
      generalize l[n].ord l2[n] = q at *
      go_wp2
      refine Lex.wp_region_text (by kernel_rfl) (by kernel_rfl) ?_
      go_wp2_with fail
      refine HT.out.mono ?_
      clear HT
      rintro e w2 ⟨rfl, ho2⟩
      have HO2 := Lib.hid ((HO.out.drew).trans ho2)
      clear ho2
      by_cases hq : q = 0
      · have hqz : (q != 0) = false := by rw [bne_eq_false_iff_eq]; exact hq
        have HN := Lib.hid (show ords l l2 = ords (l.drop (n + 1)) (l2.drop (n + 1)) by rw [HE.out, HS.out, if_neg (by simpa using hq)])
        clear hq
        go_wp2
        refine Lex.sq_done (by rfl) ?_
        go_wp2
        go_roundw
        case measure => simp [intOf]; omega
        case rel => exact ⟨n + 1, by omega, by omega, by go_num, HN, HO2⟩
      · have hqz : (q != 0) = true := by rw [bne_iff_ne]; exact hq
        have HN := Lib.hid (show ords l l2 = q by rw [HE.out, HS.out, if_pos hq])
        clear hq
        go_wp2
        refine Lex.sq_done (by rfl) ?_
        go_wp2
        refine bodyPost_ret (results_tmp rfl _ _ _) rfl ⟨?_, HO0.out.trans HO2.out⟩
        rw [HF.out, HN.out]
        rfl
    · have HN := Lib.hid (show ords l l2 = cmpI (l.length : Int) (l2.length : Int) by
        rw [HE.out]
        have h := ords_nil (l.drop n) (l2.drop n) (by
          by_cases h1 : n < l.length
          · exact .inr (List.drop_eq_nil_of_le (by omega))
          · exact .inl (List.drop_eq_nil_of_le (by omega)))
        rw [h, List.length_drop, List.length_drop]
        unfold cmpI
        by_cases q1 : (l.length : Int) < (l2.length : Int)
        · rw [if_pos (by omega), if_pos q1]
        · rw [if_neg (by omega), if_neg q1]
          by_cases q2 : (l2.length : Int) < (l.length : Int)
          · rw [if_pos (by omega), if_pos q2]
          · rw [if_neg (by omega), if_neg q2])
      have HQ := Lib.hid (fun w => number_ok w (l.length : Int) (l2.length : Int))
      clear HC HC2
      by_cases h1 : n < l.length
      · have h1z : (n : Int) < (l.length : Int) := by omega
        have h2z : ¬ (n : Int) < (l2.length : Int) := by omega
        go_wp2_with fail
        refine (HQ.out _).mono ?_
        rintro e w2 ⟨rfl, rfl⟩
        go_wp2
        refine bodyPost_ret (results_tmp rfl _ _ _) rfl ⟨?_, HO0.out.trans HO.out⟩
        rw [HF.out, HN.out]
        rfl
      · have h1z : ¬ (n : Int) < (l.length : Int) := by omega
        go_wp2_with fail
        refine (HQ.out _).mono ?_
        rintro e w2 ⟨rfl, rfl⟩
        go_wp2
        refine bodyPost_ret (results_tmp rfl _ _ _) rfl ⟨?_, HO0.out.trans HO.out⟩
        rw [HF.out, HN.out]
        rfl
theorem ord_ok (v : V) : OrdOk v := by
  refine V.rec (motive_1 := OrdOk) (motive_2 := fun l => ∀ x ∈ l, OrdOk x) ?_ ?_ ?_ v
  · intro k i r t l ih
    exact ord_step _ ih
  · intro x hx; cases hx
  · intro a l ha hl x hx
    rcases List.mem_cons.1 hx with rfl | hx
    · exact ha
    · exact hl x hx
end Go.Proofs.Ytffdfegelgpniaa
