/-
  ValueParts: the walk's loop.
-/
import Derived.Test.YtffdfegelgpniaaMi
import Derived.Test.YtffdfegelgpniaaRows
import Derived.ChangeMaps5
set_option linter.unusedSimpArgs false
set_option linter.unusedVariables false
set_option linter.unusedSimpArgs false
set_option linter.unusedVariables false
namespace Go.Proofs.Ytffdfegelgpniaa
open Go.RowKit Go.Fl

theorem nil_gr (w : World) : Gr w (w.alloc (.cells #[bv 6] 5)) (.slice none 0 0) (.slice (some ⟨w.heap.size, 0, none⟩) 1 1) 1 [bv 6] := by
  refine ⟨⟨rfl, .inr ⟨_, 0, 1, _, rfl, Blk.new _ _ _, Nat.le_refl _, by decide, Nat.le_refl _, rfl⟩⟩, fun g hg => .inr ?_, (Only.refl _ _).alloc _⟩
  have : w.heap.size = g := by simpa [Value.ownBlock] using hg
  omega
theorem Gr.only_nil {W w : World} {v : Value} {n : Nat} {xs : List Value} (h : Gr W w (.slice none 0 0) v n xs) : Only [] W w := h.only
theorem flat_of {k i : Int} {r : Nat} {t : ByteArray} {l : List V} : (V.mk k i r t l).flat = (decide (k ≠ 6) || decide (l.length = 0)) := rfl
theorem flat_vis {w : World} {F : Nat → Prop} {v : V} {k i : Int} {r : Nat} {t : ByteArray} {a : Option Addr} {n c : Nat} (h : VIs w F v [iv k, iv i, fv r, .string t, .slice a n c]) : v.flat = (decide (k ≠ 6) || decide (n = 0)) := by
  cases h
  rfl
theorem psize_le : ∀ (l : List V), psize l ≤ 65536 * l.length
  | [] => Nat.zero_le _
  | v :: l => by
    have ih := psize_le l
    have h : v.size ≤ 65536 := by
      unfold V.size
      cases hx : v.item with
      | none => exact Nat.zero_le _
      | some x => exact item_size hx
    simp only [psize, List.length_cons]
    omega
theorem vsize_le (v : V) : v.size ≤ 65536 := by
  unfold V.size
  cases hx : v.item with
  | none => exact Nat.zero_le _
  | some x => exact item_size hx
theorem wpList_wanted {P : Program} {ops : Array Oper} {Q : Exit → Act → World → Prop} {rest : List Oper} {o : Oper} {a : Act} {w : World} (hg : Region.wanted o (yielded ops a.tmps) = true)
    (h : ∀ K : Act → World → Prop, (∀ a w, wpList P ops Q rest a w → K a w) → o.wp P a w K Q) : wpList P ops Q (o :: rest) a w :=
  wpList_step fun K hK => by simp only [hg, if_true]; exact h K hK
theorem wpList_append_slsG {P : Program} {w : World} {ops : Array Oper} {rest : List Oper} {o : Oper} {a : Act} {Q : Exit → Act → World → Prop} (hgd : Region.wanted o (yielded ops a.tmps) = true) (s x : Operand) (t : TypeId)
    (ho : o.op = .call { callee := .builtin .append, args := #[s, x], argTypes := #[t, t] })
    (e : TypeId) (i : TypeInfo) (z : Value) (size bytes : Nat) (ht : P.underlying t = some (.slice e)) (hi : P.info? e = some i) (hz : i.zero = some z)
    (hsize : i.size = size) (hby : i.bytes = bytes) (hzs : z.cells.size = size) (hsz : 0 < size)
    {v : Value} {n : Nat} {xs : List Value} (hs : a.eval s = v) (hown : Sl w e size v n xs)
    {vx : Value} {m : Nat} {news : List Value} (hx : a.eval x = vx) (hxs : Sl w e size vx m news) (h1 : ∀ u ∈ news, u.oneCell' = true)
    (h63 : n + m ≤ maxLen) (hbytes : (n + m) * bytes ≤ 140737488355328)
    (h : ∀ v' w', Sl w' e size v' (n + m) (xs ++ news) → w.grownBy w' v.ownBlock → (v'.ownBlock = v.ownBlock ∨ v'.ownBlock = some w.heap.size) → wpList P ops Q rest (a.put o.dst v') w') : wpList P ops Q (o :: rest) a w := by
  refine wpList_wanted hgd fun K hK => ?_
  obtain ⟨v', w', hr, h2, h3, h4⟩ := run_append_sls (P := P) t o.type e i z size bytes ht hi hz hsize hby hzs hsz hown hxs h1 h63 hbytes
  unfold Oper.wp execOp
  simp only [ho, resolve, invoke, builtin, Sem.run_bind, Sem.run_pure, Result.andThen_ok, List.map_toArray, List.map_cons, List.map_nil, hs, hx, hr]
  exact hK _ _ (h v' w' h2 h3 h4)
theorem pkeys_byte : ∀ (l : List V), ∀ c ∈ pkeys l, c < 256
  | [], c, h => by cases h
  | v :: l, c, h => by
    rcases List.mem_append.1 h with h | h
    · cases hx : v.item with
      | none => rw [kb_none hx] at h; cases h
      | some x => rw [kb_some hx] at h; exact key_byte x c h
    · exact pkeys_byte l c h
set_option maxRecDepth 1000000 in
set_option maxHeartbeats 12800000 in
theorem parts_ok (w : World) {F : Nat → Prop} {l : List V} {s : Value} (t : ByteArray) (hs : VL w F l s) (hn : l.length ≤ 1048576) (ht : t.size ≤ maxLen) : Calls Try.prog 5 #[s, .string t] w fun e w' => e = .returned (.bool true) ∧ Only [] w w' := by
  obtain ⟨j5, si, sz0, sz1, sz2⟩ := info_parts info5
  obtain ⟨a, cap, css, rfl, h1, h2, h3, h4⟩ := hs
  have HC := Lib.hid h3
  have HI := Lib.hid h4
  clear h3 h4
  go_enter Try.func5, Try.ntmps5
  have HQ := Lib.hid (begun_ok w)
  go_wp2_with fail
  refine HQ.out.mono ?_
  clear HQ
  rintro e w1 ⟨rfl, ho⟩
  have HO := Lib.hid ho
  clear ho
  go_wp2
  go_loopw [5, 6, 7, 8] (fun v sz m z wr => ∃ k : Nat, k ≤ l.length ∧ z = .int .i64 k ∧ sz = iv (1 + psize (l.take k) : Nat) ∧ m = .bool (pmay (l.take k)) ∧ Hid (Gr w1 wr (.slice none 0 0) v (1 + (pkeys (l.take k)).length) (bv 6 :: (pkeys (l.take k)).map bv))) (fun _ _ _ z _ => l.length - (intOf z).toNat)
  case atStart => exact ⟨0, Nat.zero_le _, rfl, rfl, rfl, Lib.hid (nil_gr w1)⟩
  case round =>
    obtain ⟨k, hk, rfl, rfl, rfl, HR⟩ := hrel
    have hpl := pkeys_len (l.take k)
    have hpl2 : (l.take k).length ≤ k := List.length_take_le _ _
    obtain ⟨va, vc, hv, _, _⟩ := HR.out.sl.shape
    subst hv
    by_cases hkl : k < l.length
    · have hkz : (k : Int) < (l.length : Int) := by omega
      obtain ⟨g, off, rfl, hg, _, hcc⟩ := HC.out (by omega)
      have HG := Lib.hid (show g < w1.heap.size from Nat.lt_of_lt_of_le hg HO.out.size)
      have HCC := Lib.hid (fun j c u (hj : j < l.length) (hu : (css j)[c]? = some u) => (HO.out.cell (p := ⟨g, off + j * 5 + c, none⟩) hg (by simp)).trans (hcc j c u hj hu))
      have HV := Lib.hid ((HI.out k hkl).only0 HO.out)
      obtain ⟨c0, c1, c2, c3, c4, c5, c6, hcs0⟩ := HV.out.five
      have hcs := Lib.hid hcs0
      have HE := Lib.hid (show pkeys (l.take (k + 1)) = pkeys (l.take k) ++ l[k].kb by rw [List.take_succ_eq_append_getElem hkl, pkeys_snoc])
      have HZ := Lib.hid (show psize (l.take (k + 1)) = psize (l.take k) + l[k].size by rw [List.take_succ_eq_append_getElem hkl, psize_snoc])
      have HP := Lib.hid (show pmay (l.take (k + 1)) = (pmay (l.take k) && (l[k].may && l[k].flat)) by rw [List.take_succ_eq_append_getElem hkl, pmay_snoc])
      clear hcc hg hcs0 HC HI
      have hx : ∀ c u, (css k)[c]? = some u → wr.cell? ⟨g, off + k * 5 + c, none⟩ = some u := fun c u hu => (HR.out.only_nil.cell (p := ⟨g, off + k * 5 + c, none⟩) HG.out (by simp)).trans (HCC.out k c u hkl hu)
      have x0 := hx 0 (iv c0) (by rw [hcs.out]; rfl)
      have x1 := hx 1 (iv c1) (by rw [hcs.out]; rfl)
      have x2 := hx 2 (fv c2) (by rw [hcs.out]; rfl)
      have x3 := hx 3 (.string c3) (by rw [hcs.out]; rfl)
      have x4 := hx 4 (.slice c4 c5 c6) (by rw [hcs.out]; rfl)
      rw [Nat.add_zero] at x0
      clear hx
      have HVr := HV.out.only0 HR.out.only_nil
      rw [hcs.out] at HVr
      have HQ := Lib.hid (Light_ok HVr)
      clear HVr
      cases hla : l[k].isLight
      · rw [hla] at HQ
        go_wp2_with fail
        refine HQ.out.mono ?_
        clear HQ x0 x1 x2 x3 x4
        rintro e w2 ⟨rfl, ho⟩
        go_wp2
        exact bodyPost_ret (results_tmp rfl _ _ _) rfl ⟨rfl, HO.out.trans (HR.out.only_nil.trans ho)⟩
      rw [hla] at HQ
      clear hla
      go_wp2_with fail
      refine HQ.out.mono ?_
      clear HQ x0 x1 x2 x3 x4
      rintro e w2 ⟨rfl, ho⟩
      have HR2 := Lib.hid (HR.out.only2 ho)
      clear ho HR
      have HV2 := HV.out.only0 HR2.out.only_nil
      rw [hcs.out] at HV2
      have HQ := Lib.hid (Key_ok HV2)
      clear HV2
      have hx : ∀ c u, (css k)[c]? = some u → w2.cell? ⟨g, off + k * 5 + c, none⟩ = some u := fun c u hu => (HR2.out.only_nil.cell (p := ⟨g, off + k * 5 + c, none⟩) HG.out (by simp)).trans (HCC.out k c u hkl hu)
      have x0 := hx 0 (iv c0) (by rw [hcs.out]; rfl)
      have x1 := hx 1 (iv c1) (by rw [hcs.out]; rfl)
      have x2 := hx 2 (fv c2) (by rw [hcs.out]; rfl)
      have x3 := hx 3 (.string c3) (by rw [hcs.out]; rfl)
      have x4 := hx 4 (.slice c4 c5 c6) (by rw [hcs.out]; rfl)
      rw [Nat.add_zero] at x0
      clear hx
      have HFV := HV.out
      rw [hcs.out] at HFV
      have HFL := Lib.hid (flat_vis HFV)
      clear HFV
      have hps := psize_le (l.take k)
      have hvs := vsize_le l[k]
      cases hit : l[k].item with
      | none =>
        have HIT := Lib.hid hit
        clear hit
        rw [HIT.out] at HQ
        go_wp2_with fail
        refine HQ.out.mono ?_
        clear HQ x0 x1 x2 x3 x4
        rintro e w3 ⟨kv, rfl, hsl, _, ho⟩
        have HR3 := Lib.hid (HR2.out.only2 ho)
        clear ho HR2
        have hx : ∀ c u, (css k)[c]? = some u → w3.cell? ⟨g, off + k * 5 + c, none⟩ = some u := fun c u hu => (HR3.out.only_nil.cell (p := ⟨g, off + k * 5 + c, none⟩) HG.out (by simp)).trans (HCC.out k c u hkl hu)
        have x0 := hx 0 (iv c0) (by rw [hcs.out]; rfl)
        have x1 := hx 1 (iv c1) (by rw [hcs.out]; rfl)
        have x2 := hx 2 (fv c2) (by rw [hcs.out]; rfl)
        have x3 := hx 3 (.string c3) (by rw [hcs.out]; rfl)
        have x4 := hx 4 (.slice c4 c5 c6) (by rw [hcs.out]; rfl)
        rw [Nat.add_zero] at x0
        clear hx
        have HS3 := Lib.hid (show Sl w3 5 1 kv 0 ([].map bv) from hsl)
        clear hsl
        cases hp : pmay (l.take k)
        · have HPK := Lib.hid hp
          clear hp
          go_wp2_with (at_builtin; refine wpList_append_sls rfl (.tmp 60) (.tmp 61) 28 rfl 5 j5 _ 1 1 Try.underlying28 si sz0 sz1 sz2 rfl (by decide) rfl HR3.out.sl rfl HS3.out (by simp [Value.oneCell']) (by unfold maxLen; omega) (by omega) ?_)
          intro b2 w4 hS hg hat
          have HM := Lib.hid ((HR3.out.append hS hg hat (Nat.le_refl _)).cast (m := 1 + (pkeys (l.take (k + 1))).length) (ys := bv 6 :: (pkeys (l.take (k + 1))).map bv) (by rw [HE.out, kb_none HIT.out]; simp <;> omega) (by rw [HE.out, kb_none HIT.out]; simp))
          clear hS hg hat HR3 HS3 x0 x1 x2 x3 x4
          have HV4 := Lib.hid (HV.out.only0 HM.out.only_nil)
          have hx : ∀ c u, (css k)[c]? = some u → w4.cell? ⟨g, off + k * 5 + c, none⟩ = some u := fun c u hu => (HM.out.only_nil.cell (p := ⟨g, off + k * 5 + c, none⟩) HG.out (by simp)).trans (HCC.out k c u hkl hu)
          have x0 := hx 0 (iv c0) (by rw [hcs.out]; rfl)
          have x1 := hx 1 (iv c1) (by rw [hcs.out]; rfl)
          have x2 := hx 2 (fv c2) (by rw [hcs.out]; rfl)
          have x3 := hx 3 (.string c3) (by rw [hcs.out]; rfl)
          have x4 := hx 4 (.slice c4 c5 c6) (by rw [hcs.out]; rfl)
          rw [Nat.add_zero] at x0
          clear hx
          rw [hcs.out] at HV4
          have HQ := Lib.hid (vsize_ok HV4.out)
          go_wp2_with fail
          refine HQ.out.mono ?_
          clear HQ x0 x1 x2 x3 x4
          rintro e w5 ⟨rfl, ho⟩
          have HM5 := Lib.hid (HM.out.only2 ho)
          clear HM ho
          go_wp2
          go_roundw
          case measure => simp [intOf]; omega
          case rel => exact ⟨k + 1, by omega, by go_num, by rw [HZ.out]; go_num, by rw [HP.out, HPK.out, Bool.false_and] <;> rfl, HM5⟩
        · have HPK := Lib.hid hp
          clear hp
          go_wp2_with (at_builtin; refine wpList_append_sls rfl (.tmp 60) (.tmp 61) 28 rfl 5 j5 _ 1 1 Try.underlying28 si sz0 sz1 sz2 rfl (by decide) rfl HR3.out.sl rfl HS3.out (by simp [Value.oneCell']) (by unfold maxLen; omega) (by omega) ?_)
          intro b2 w4 hS hg hat
          have HM := Lib.hid ((HR3.out.append hS hg hat (Nat.le_refl _)).cast (m := 1 + (pkeys (l.take (k + 1))).length) (ys := bv 6 :: (pkeys (l.take (k + 1))).map bv) (by rw [HE.out, kb_none HIT.out]; simp <;> omega) (by rw [HE.out, kb_none HIT.out]; simp))
          clear hS hg hat HR3 HS3 x0 x1 x2 x3 x4
          have HV4 := Lib.hid (HV.out.only0 HM.out.only_nil)
          have hx : ∀ c u, (css k)[c]? = some u → w4.cell? ⟨g, off + k * 5 + c, none⟩ = some u := fun c u hu => (HM.out.only_nil.cell (p := ⟨g, off + k * 5 + c, none⟩) HG.out (by simp)).trans (HCC.out k c u hkl hu)
          have x0 := hx 0 (iv c0) (by rw [hcs.out]; rfl)
          have x1 := hx 1 (iv c1) (by rw [hcs.out]; rfl)
          have x2 := hx 2 (fv c2) (by rw [hcs.out]; rfl)
          have x3 := hx 3 (.string c3) (by rw [hcs.out]; rfl)
          have x4 := hx 4 (.slice c4 c5 c6) (by rw [hcs.out]; rfl)
          rw [Nat.add_zero] at x0
          clear hx
          rw [hcs.out] at HV4
          have HQ := Lib.hid (vsize_ok HV4.out)
          go_wp2_with fail
          refine HQ.out.mono ?_
          clear HQ x0 x1 x2 x3 x4
          rintro e w5 ⟨rfl, ho⟩
          have HM5 := Lib.hid (HM.out.only2 ho)
          clear HM ho
          go_wp2
          go_roundw
          case measure => simp [intOf]; omega
          case rel => exact ⟨k + 1, by omega, by go_num, by rw [HZ.out]; go_num, by rw [HP.out, may_of, HIT.out, Bool.false_and, Bool.and_false] <;> rfl, HM5⟩
      | some x =>
        have HIT := Lib.hid hit
        have hkl3 : x.key.length ≤ 589824 := by
          have g1 := item_size hit
          have g2 := key_len x
          omega
        clear hit
        rw [HIT.out] at HQ
        go_wp2_with fail
        refine HQ.out.mono ?_
        clear HQ x0 x1 x2 x3 x4
        rintro e w3 ⟨kv, rfl, hsl, _, ho⟩
        have HR3 := Lib.hid (HR2.out.only2 ho)
        clear ho HR2
        have hx : ∀ c u, (css k)[c]? = some u → w3.cell? ⟨g, off + k * 5 + c, none⟩ = some u := fun c u hu => (HR3.out.only_nil.cell (p := ⟨g, off + k * 5 + c, none⟩) HG.out (by simp)).trans (HCC.out k c u hkl hu)
        have x0 := hx 0 (iv c0) (by rw [hcs.out]; rfl)
        have x1 := hx 1 (iv c1) (by rw [hcs.out]; rfl)
        have x2 := hx 2 (fv c2) (by rw [hcs.out]; rfl)
        have x3 := hx 3 (.string c3) (by rw [hcs.out]; rfl)
        have x4 := hx 4 (.slice c4 c5 c6) (by rw [hcs.out]; rfl)
        rw [Nat.add_zero] at x0
        clear hx
        have HS3 := Lib.hid (show Sl w3 5 1 kv x.key.length (x.key.map bv) from hsl)
        clear hsl
        cases hp : pmay (l.take k)
        · have HPK := Lib.hid hp
          clear hp
          go_wp2_with (at_builtin; refine wpList_append_sls rfl (.tmp 60) (.tmp 61) 28 rfl 5 j5 _ 1 1 Try.underlying28 si sz0 sz1 sz2 rfl (by decide) rfl HR3.out.sl rfl HS3.out (by simp [Value.oneCell']) (by unfold maxLen; omega) (by omega) ?_)
          intro b2 w4 hS hg hat
          have HM := Lib.hid ((HR3.out.append hS hg hat (Nat.le_refl _)).cast (m := 1 + (pkeys (l.take (k + 1))).length) (ys := bv 6 :: (pkeys (l.take (k + 1))).map bv) (by rw [HE.out, kb_some HIT.out]; simp <;> omega) (by rw [HE.out, kb_some HIT.out]; simp))
          clear hS hg hat HR3 HS3 x0 x1 x2 x3 x4
          have HV4 := Lib.hid (HV.out.only0 HM.out.only_nil)
          have hx : ∀ c u, (css k)[c]? = some u → w4.cell? ⟨g, off + k * 5 + c, none⟩ = some u := fun c u hu => (HM.out.only_nil.cell (p := ⟨g, off + k * 5 + c, none⟩) HG.out (by simp)).trans (HCC.out k c u hkl hu)
          have x0 := hx 0 (iv c0) (by rw [hcs.out]; rfl)
          have x1 := hx 1 (iv c1) (by rw [hcs.out]; rfl)
          have x2 := hx 2 (fv c2) (by rw [hcs.out]; rfl)
          have x3 := hx 3 (.string c3) (by rw [hcs.out]; rfl)
          have x4 := hx 4 (.slice c4 c5 c6) (by rw [hcs.out]; rfl)
          rw [Nat.add_zero] at x0
          clear hx
          rw [hcs.out] at HV4
          have HQ := Lib.hid (vsize_ok HV4.out)
          go_wp2_with fail
          refine HQ.out.mono ?_
          clear HQ x0 x1 x2 x3 x4
          rintro e w5 ⟨rfl, ho⟩
          have HM5 := Lib.hid (HM.out.only2 ho)
          clear HM ho
          go_wp2
          go_roundw
          case measure => simp [intOf]; omega
          case rel => exact ⟨k + 1, by omega, by go_num, by rw [HZ.out]; go_num, by rw [HP.out, HPK.out, Bool.false_and] <;> rfl, HM5⟩
        · have HPK := Lib.hid hp
          clear hp
          by_cases hk6 : c0 = 6
          · by_cases hc5 : c5 = 0
            · have HFL2 := Lib.hid (show l[k].flat = true by rw [HFL.out, hc5]; simp)
              have hq : (c0 != 6) = false := by rw [bne_eq_false_iff_eq]; exact hk6
              have hq2 : ((c5 : Int) == 0) = true := by rw [beq_iff_eq]; omega
              clear hk6 hc5
              go_wp2_with (at_builtin; refine wpList_append_sls rfl (.tmp 60) (.tmp 61) 28 rfl 5 j5 _ 1 1 Try.underlying28 si sz0 sz1 sz2 rfl (by decide) rfl HR3.out.sl rfl HS3.out (by simp [Value.oneCell']) (by unfold maxLen; omega) (by omega) ?_)
              intro b2 w4 hS hg hat
              have HM := Lib.hid ((HR3.out.append hS hg hat (Nat.le_refl _)).cast (m := 1 + (pkeys (l.take (k + 1))).length) (ys := bv 6 :: (pkeys (l.take (k + 1))).map bv) (by rw [HE.out, kb_some HIT.out]; simp <;> omega) (by rw [HE.out, kb_some HIT.out]; simp))
              clear hS hg hat HR3 HS3 x0 x1 x2 x3 x4
              have HV4 := Lib.hid (HV.out.only0 HM.out.only_nil)
              have hx : ∀ c u, (css k)[c]? = some u → w4.cell? ⟨g, off + k * 5 + c, none⟩ = some u := fun c u hu => (HM.out.only_nil.cell (p := ⟨g, off + k * 5 + c, none⟩) HG.out (by simp)).trans (HCC.out k c u hkl hu)
              have x0 := hx 0 (iv c0) (by rw [hcs.out]; rfl)
              have x1 := hx 1 (iv c1) (by rw [hcs.out]; rfl)
              have x2 := hx 2 (fv c2) (by rw [hcs.out]; rfl)
              have x3 := hx 3 (.string c3) (by rw [hcs.out]; rfl)
              have x4 := hx 4 (.slice c4 c5 c6) (by rw [hcs.out]; rfl)
              rw [Nat.add_zero] at x0
              clear hx
              rw [hcs.out] at HV4
              have HQ := Lib.hid (vsize_ok HV4.out)
              go_wp2_with fail
              refine HQ.out.mono ?_
              clear HQ x0 x1 x2 x3 x4
              rintro e w5 ⟨rfl, ho⟩
              have HM5 := Lib.hid (HM.out.only2 ho)
              clear HM ho
              go_wp2
              go_roundw
              case measure => simp [intOf]; omega
              case rel => exact ⟨k + 1, by omega, by go_num, by rw [HZ.out]; go_num, by rw [HP.out, HPK.out, may_of, HIT.out, HFL2.out, Bool.true_and] <;> rfl, HM5⟩
            · have HFL2 := Lib.hid (show l[k].flat = false by rw [HFL.out, hk6]; simp [hc5])
              have hq : (c0 != 6) = false := by rw [bne_eq_false_iff_eq]; exact hk6
              have hq2 : ((c5 : Int) == 0) = false := by rw [beq_eq_false_iff_ne]; omega
              clear hk6 hc5
              go_wp2_with (at_builtin; refine wpList_append_sls rfl (.tmp 60) (.tmp 61) 28 rfl 5 j5 _ 1 1 Try.underlying28 si sz0 sz1 sz2 rfl (by decide) rfl HR3.out.sl rfl HS3.out (by simp [Value.oneCell']) (by unfold maxLen; omega) (by omega) ?_)
              intro b2 w4 hS hg hat
              have HM := Lib.hid ((HR3.out.append hS hg hat (Nat.le_refl _)).cast (m := 1 + (pkeys (l.take (k + 1))).length) (ys := bv 6 :: (pkeys (l.take (k + 1))).map bv) (by rw [HE.out, kb_some HIT.out]; simp <;> omega) (by rw [HE.out, kb_some HIT.out]; simp))
              clear hS hg hat HR3 HS3 x0 x1 x2 x3 x4
              have HV4 := Lib.hid (HV.out.only0 HM.out.only_nil)
              have hx : ∀ c u, (css k)[c]? = some u → w4.cell? ⟨g, off + k * 5 + c, none⟩ = some u := fun c u hu => (HM.out.only_nil.cell (p := ⟨g, off + k * 5 + c, none⟩) HG.out (by simp)).trans (HCC.out k c u hkl hu)
              have x0 := hx 0 (iv c0) (by rw [hcs.out]; rfl)
              have x1 := hx 1 (iv c1) (by rw [hcs.out]; rfl)
              have x2 := hx 2 (fv c2) (by rw [hcs.out]; rfl)
              have x3 := hx 3 (.string c3) (by rw [hcs.out]; rfl)
              have x4 := hx 4 (.slice c4 c5 c6) (by rw [hcs.out]; rfl)
              rw [Nat.add_zero] at x0
              clear hx
              rw [hcs.out] at HV4
              have HQ := Lib.hid (vsize_ok HV4.out)
              go_wp2_with fail
              refine HQ.out.mono ?_
              clear HQ x0 x1 x2 x3 x4
              rintro e w5 ⟨rfl, ho⟩
              have HM5 := Lib.hid (HM.out.only2 ho)
              clear HM ho
              go_wp2
              go_roundw
              case measure => simp [intOf]; omega
              case rel => exact ⟨k + 1, by omega, by go_num, by rw [HZ.out]; go_num, by rw [HP.out, HPK.out, may_of, HIT.out, HFL2.out, Bool.true_and] <;> rfl, HM5⟩
          · have HFL2 := Lib.hid (show l[k].flat = true by rw [HFL.out]; simp [hk6])
            have hq : (c0 != 6) = true := by rw [bne_iff_ne]; exact hk6
            clear hk6
            go_wp2_with (at_builtin; refine wpList_append_sls rfl (.tmp 60) (.tmp 61) 28 rfl 5 j5 _ 1 1 Try.underlying28 si sz0 sz1 sz2 rfl (by decide) rfl HR3.out.sl rfl HS3.out (by simp [Value.oneCell']) (by unfold maxLen; omega) (by omega) ?_)
            intro b2 w4 hS hg hat
            have HM := Lib.hid ((HR3.out.append hS hg hat (Nat.le_refl _)).cast (m := 1 + (pkeys (l.take (k + 1))).length) (ys := bv 6 :: (pkeys (l.take (k + 1))).map bv) (by rw [HE.out, kb_some HIT.out]; simp <;> omega) (by rw [HE.out, kb_some HIT.out]; simp))
            clear hS hg hat HR3 HS3 x0 x1 x2 x3 x4
            have HV4 := Lib.hid (HV.out.only0 HM.out.only_nil)
            have hx : ∀ c u, (css k)[c]? = some u → w4.cell? ⟨g, off + k * 5 + c, none⟩ = some u := fun c u hu => (HM.out.only_nil.cell (p := ⟨g, off + k * 5 + c, none⟩) HG.out (by simp)).trans (HCC.out k c u hkl hu)
            have x0 := hx 0 (iv c0) (by rw [hcs.out]; rfl)
            have x1 := hx 1 (iv c1) (by rw [hcs.out]; rfl)
            have x2 := hx 2 (fv c2) (by rw [hcs.out]; rfl)
            have x3 := hx 3 (.string c3) (by rw [hcs.out]; rfl)
            have x4 := hx 4 (.slice c4 c5 c6) (by rw [hcs.out]; rfl)
            rw [Nat.add_zero] at x0
            clear hx
            rw [hcs.out] at HV4
            have HQ := Lib.hid (vsize_ok HV4.out)
            go_wp2_with fail
            refine HQ.out.mono ?_
            clear HQ x0 x1 x2 x3 x4
            rintro e w5 ⟨rfl, ho⟩
            have HM5 := Lib.hid (HM.out.only2 ho)
            clear HM ho
            go_wp2
            go_roundw
            case measure => simp [intOf]; omega
            case rel => exact ⟨k + 1, by omega, by go_num, by rw [HZ.out]; go_num, by rw [HP.out, HPK.out, may_of, HIT.out, HFL2.out, Bool.true_and] <;> rfl, HM5⟩
    · obtain rfl : k = l.length := by omega
      have HRL := Lib.hid (show Gr w1 wr (.slice none 0 0) (.slice va (1 + (pkeys l).length) vc) (1 + (pkeys l).length) (bv 6 :: (pkeys l).map bv) by have := HR.out; rw [List.take_length] at this; exact this)
      clear HR hpl hpl2
      rw [List.take_length]
      have hpl := pkeys_len l
      have hps := psize_le l
      go_wp2_with (refine wpList_store_blk rfl 33 (.tmp 11) (.tmp 71) rfl [iv 5, iv 0, fv 0, .string t, .slice none 0 0] rfl rfl (Blk.new _ _ _) (by kernel_rfl) (by simp) (by simp [Value.oneCell']) ?_)
      intro w2 hB hO2
      have hOr : Only [] wr w2 := ((Only.refl [] wr).alloc _).trans' hO2 (fun i hi => .inr (by simp at hi; omega))
      have HR2 := Lib.hid (HRL.out.only2 hOr)
      have HB2 := Lib.hid (show Blk w2 wr.heap.size 33 #[iv 5, iv 0, fv 0, .string t, .slice none 0 0] from hB)
      have HT2 := Lib.hid (show VIs w2 (fun _ => True) (.mk 5 0 0 t []) [iv 5, iv 0, fv 0, .string t, .slice none 0 0] from
        .mk (l := []) (fun _ => []) (by decide) (by decide) (by omega) ht (Nat.zero_le _) (Nat.zero_le _) (fun h => absurd h (Nat.not_lt_zero _)) fun j h => absurd h (Nat.not_lt_zero _))
      clear hB hO2 hOr HRL
      have HMY := Lib.hid (show (V.mk 5 0 0 t []).may = decide (t.size ≤ 65535) by
        rw [may_of, text_parts]
        by_cases h : t.size ≤ 65535
        · rw [if_pos h, decide_eq_true h]
        · rw [if_neg h, decide_eq_false h])
      by_cases hts : t.size ≤ 65535
      · have HSZ := Lib.hid (show (V.mk 5 0 0 t []).size = 1 + t.size by unfold V.size; rw [text_parts, if_pos hts]; rfl)
        have HD := Lib.hid (show decide (t.size ≤ 65535) = true from decide_eq_true hts)
        have hlt : (t.size : Int) < 65536 := by omega
        have HQ := Lib.hid (may_ok HT2.out)
        rw [HMY.out, HD.out] at HQ
        have p0 := HB2.out.cell 0
        have p1 := HB2.out.cell 1
        have p2 := HB2.out.cell 2
        have p3 := HB2.out.cell 3
        have p4 := HB2.out.cell 4
        simp at p0 p1 p2 p3 p4
        go_wp2_with fail
        refine HQ.out.mono ?_
        clear HQ p0 p1 p2 p3 p4
        rintro e w3 ⟨rfl, ho⟩
        have HR3 := Lib.hid (HR2.out.only2 ho)
        have HB3 := Lib.hid (HB2.out.only ho (by simp))
        have HT3 := Lib.hid (HT2.out.only0 ho)
        clear HR2 HB2 HT2 ho
        have HQ := Lib.hid (may_ok HT3.out)
        rw [HMY.out, HD.out] at HQ
        have p0 := HB3.out.cell 0
        have p1 := HB3.out.cell 1
        have p2 := HB3.out.cell 2
        have p3 := HB3.out.cell 3
        have p4 := HB3.out.cell 4
        simp at p0 p1 p2 p3 p4
        go_wp2_with fail
        refine HQ.out.mono ?_
        clear HQ p0 p1 p2 p3 p4
        rintro e w4 ⟨rfl, ho⟩
        have HR4 := Lib.hid (HR3.out.only2 ho)
        have HB4 := Lib.hid (HB3.out.only ho (by simp))
        have HT4 := Lib.hid (HT3.out.only0 ho)
        clear HR3 HB3 HT3 ho
        have HQ := Lib.hid (vsize_ok HT4.out)
        rw [HSZ.out] at HQ
        have p0 := HB4.out.cell 0
        have p1 := HB4.out.cell 1
        have p2 := HB4.out.cell 2
        have p3 := HB4.out.cell 3
        have p4 := HB4.out.cell 4
        simp at p0 p1 p2 p3 p4
        go_wp2_with fail
        refine HQ.out.mono ?_
        clear HQ p0 p1 p2 p3 p4
        rintro e w5 ⟨rfl, ho⟩
        have HR5 := Lib.hid (HR4.out.only2 ho)
        clear HR4 HB4 HT4 ho
        have hne : (((1 + t.size : Nat) : Int) != (t.size : Int) + 1) = false := by rw [bne_eq_false_iff_eq]; omega
        go_upto_region 18 with fail
        have HPL := Lib.hid hpl
        clear hpl hps hk hkl
        cases hp : pmay l
        · go_wp2
          exact bodyPost_ret (results_tmp rfl _ _ _) rfl ⟨rfl, HO.out.trans HR5.out.only_nil⟩
        · by_cases hs : 1 + psize l ≤ 65536
          · have hsz : ¬ (65536 : Int) < 1 + (psize l : Int) := by omega
            obtain ⟨xs, hx1, hx2, hx3⟩ := list_parts l hp hs
            have HIX := Lib.hid hx1
            have HSL := Lib.hid hs
            have HPM := Lib.hid hp
            clear hs
            have HKX := Lib.hid (show (I.list xs).key = 6 :: (pkeys l ++ [0]) by show 6 :: (keys xs ++ [0]) = _; rw [hx2])
            have HSX := Lib.hid (show (V.mk 6 0 0 ⟨#[]⟩ l).size = 1 + psize l by unfold V.size; rw [hx1]; show 1 + sizes xs = _; rw [hx3])
            clear hx1 hx2 hx3
            go_wp2_with (refine wpList_store_blk rfl 33 (.tmp 12) (.tmp 97) rfl [iv 6, iv 0, fv 0, .string ⟨#[]⟩, .slice a l.length cap] rfl rfl (Blk.new _ _ _) (by kernel_rfl) (by simp) (by simp [Value.oneCell']) ?_)
            intro w6 hB hO2
            have hOr : Only [] w5 w6 := ((Only.refl [] w5).alloc _).trans' hO2 (fun i hi => .inr (by simp at hi; omega))
            have HR6 := Lib.hid (HR5.out.only2 hOr)
            have HB6 := Lib.hid (show Blk w6 w5.heap.size 33 #[iv 6, iv 0, fv 0, .string ⟨#[]⟩, .slice a l.length cap] from hB)
            have HL6 := Lib.hid ((show VIs w F (.mk 6 0 0 ⟨#[]⟩ l) [iv 6, iv 0, fv 0, .string ⟨#[]⟩, .slice a l.length cap] from
              .mk css (by decide) (by decide) (by omega) (Nat.zero_le _) h1 h2 HC.out HI.out).only0 (HO.out.trans HR6.out.only_nil))
            have HLT := Lib.hid HR6.out.sl.lt
            clear hB hO2 hOr HR5
            have HQ := Lib.hid (Key_ok HL6.out)
            rw [HIX.out] at HQ
            have p0 := HB6.out.cell 0
            have p1 := HB6.out.cell 1
            have p2 := HB6.out.cell 2
            have p3 := HB6.out.cell 3
            have p4 := HB6.out.cell 4
            simp at p0 p1 p2 p3 p4
            go_wp2_with fail
            refine HQ.out.mono ?_
            clear HQ p0 p1 p2 p3 p4
            rintro e w7 ⟨kv, rfl, hsl, hkb, ho⟩
            have HKB := Lib.hid hkb
            have hsl2 : Sl w7 5 1 kv (6 :: (pkeys l ++ [0])).length ((6 :: (pkeys l ++ [0])).map bv) := by rw [← HKX.out]; exact hsl
            have HS7 := Lib.hid hsl2
            have HR7 := Lib.hid (HR6.out.only2 ho)
            have HB7 := Lib.hid (HB6.out.only ho (by simp))
            have HL7 := Lib.hid (HL6.out.only0 ho)
            clear HR6 HB6 HL6 ho hsl hsl2
            have HQ := Lib.hid (vsize_ok HL7.out)
            rw [HSX.out] at HQ
            have p0 := HB7.out.cell 0
            have p1 := HB7.out.cell 1
            have p2 := HB7.out.cell 2
            have p3 := HB7.out.cell 3
            have p4 := HB7.out.cell 4
            simp at p0 p1 p2 p3 p4
            go_wp2_with fail
            refine HQ.out.mono ?_
            clear HQ p0 p1 p2 p3 p4
            rintro e w8 ⟨rfl, ho⟩
            have HR8 := Lib.hid (HR7.out.only2 ho)
            have HS8 := Lib.hid (HS7.out.only ho (fun _ _ => by simp))
            clear HR7 HB7 HL7 ho hkb
            have hpk : (pkeys l).length ≤ 618475290624 := by have := HPL.out; omega
            have HRa := Lib.hid (HR8.out.only2 ((Only.refl [] w8).alloc (.cells #[bv 0] 5)))
            have HZa := Lib.hid (show Sl (w8.alloc (.cells #[bv 0] 5)) 5 1 (.slice (some ⟨w8.heap.size, 0, none⟩) 1 1) 1 [bv 0] from ⟨rfl, .inr ⟨_, 0, 1, _, rfl, Blk.new _ _ _, Nat.le_refl _, by decide, Nat.le_refl _, rfl⟩⟩)
            go_wp2_with (at_builtin; refine wpList_append_slsG (by rfl) (.tmp 113) (.tmp 114) 28 rfl 5 j5 _ 1 1 Try.underlying28 si sz0 sz1 sz2 rfl (by decide) rfl HRa.out.sl rfl HZa.out (by simp [Value.oneCell']) (by unfold maxLen; omega) (by omega) ?_)
            intro b2 w9 hS hg hat
            have HRb := Lib.hid ((HRa.out.append hS hg hat (by simp)).cast (m := (6 :: (pkeys l ++ [0])).length) (ys := (6 :: (pkeys l ++ [0])).map bv) (by simp; omega) (by simp))
            have HS9 := Lib.hid (show Sl w9 5 1 kv (6 :: (pkeys l ++ [0])).length ((6 :: (pkeys l ++ [0])).map bv) from
              (HS8.out.alloc _).keep fun g hgg => hg.block g ((HS8.out.alloc (.cells #[bv 0] 5)).lt g hgg) fun e => by
                have h1 := HLT.out g e.symm
                have h2 := HKB.out g hgg
                omega)
            clear hS hg hat HRa HZa HS8 HR8
            have hb6 : ∀ c ∈ 6 :: (pkeys l ++ [0]), c < 256 := fun c hc => by
              rcases List.mem_cons.1 hc with rfl | hc
              · decide
              · rcases List.mem_append.1 hc with hc | hc
                · exact pkeys_byte l c hc
                · simp at hc; omega
            have HQ := Lib.hid (eqB_ok (bytes_of_sl HS9.out hb6) (bytes_of_sl HRb.out.sl hb6))
            rw [decide_eq_true (rfl : 6 :: (pkeys l ++ [0]) = 6 :: (pkeys l ++ [0]))] at HQ
            clear hb6
            go_wp2_with fail
            refine HQ.out.mono ?_
            clear HQ
            rintro e w10 ⟨rfl, ho⟩
            go_wp2
            exact bodyPost_ret (results_tmp rfl _ _ _) rfl ⟨rfl, HO.out.trans (HRb.out.only_nil.trans ho)⟩
          · have hsz : (65536 : Int) < 1 + (psize l : Int) := by omega
            clear hs
            go_wp2
            exact bodyPost_ret (results_tmp rfl _ _ _) rfl ⟨rfl, HO.out.trans HR5.out.only_nil⟩
      · have HD := Lib.hid (show decide (t.size ≤ 65535) = false from decide_eq_false hts)
        have hlt : ¬ (t.size : Int) < 65536 := by omega
        have HQ := Lib.hid (may_ok HT2.out)
        rw [HMY.out, HD.out] at HQ
        have p0 := HB2.out.cell 0
        have p1 := HB2.out.cell 1
        have p2 := HB2.out.cell 2
        have p3 := HB2.out.cell 3
        have p4 := HB2.out.cell 4
        simp at p0 p1 p2 p3 p4
        go_wp2_with fail
        refine HQ.out.mono ?_
        clear HQ p0 p1 p2 p3 p4
        rintro e w3 ⟨rfl, ho⟩
        have HR3 := Lib.hid (HR2.out.only2 ho)
        have HB3 := Lib.hid (HB2.out.only ho (by simp))
        have HT3 := Lib.hid (HT2.out.only0 ho)
        clear HR2 HB2 HT2 ho
        have HQ := Lib.hid (may_ok HT3.out)
        rw [HMY.out, HD.out] at HQ
        have p0 := HB3.out.cell 0
        have p1 := HB3.out.cell 1
        have p2 := HB3.out.cell 2
        have p3 := HB3.out.cell 3
        have p4 := HB3.out.cell 4
        simp at p0 p1 p2 p3 p4
        go_wp2_with fail
        refine HQ.out.mono ?_
        clear HQ p0 p1 p2 p3 p4
        rintro e w4 ⟨rfl, ho⟩
        have HR4 := Lib.hid (HR3.out.only2 ho)
        clear HR3 HB3 HT3 ho hts
        go_upto_region 18 with fail
        have HPL := Lib.hid hpl
        clear hpl hps hk hkl
        cases hp : pmay l
        · go_wp2
          exact bodyPost_ret (results_tmp rfl _ _ _) rfl ⟨rfl, HO.out.trans HR4.out.only_nil⟩
        · by_cases hs : 1 + psize l ≤ 65536
          · have hsz : ¬ (65536 : Int) < 1 + (psize l : Int) := by omega
            obtain ⟨xs, hx1, hx2, hx3⟩ := list_parts l hp hs
            have HIX := Lib.hid hx1
            have HSL := Lib.hid hs
            have HPM := Lib.hid hp
            clear hs
            have HKX := Lib.hid (show (I.list xs).key = 6 :: (pkeys l ++ [0]) by show 6 :: (keys xs ++ [0]) = _; rw [hx2])
            have HSX := Lib.hid (show (V.mk 6 0 0 ⟨#[]⟩ l).size = 1 + psize l by unfold V.size; rw [hx1]; show 1 + sizes xs = _; rw [hx3])
            clear hx1 hx2 hx3
            go_wp2_with (refine wpList_store_blk rfl 33 (.tmp 12) (.tmp 97) rfl [iv 6, iv 0, fv 0, .string ⟨#[]⟩, .slice a l.length cap] rfl rfl (Blk.new _ _ _) (by kernel_rfl) (by simp) (by simp [Value.oneCell']) ?_)
            intro w6 hB hO2
            have hOr : Only [] w4 w6 := ((Only.refl [] w4).alloc _).trans' hO2 (fun i hi => .inr (by simp at hi; omega))
            have HR6 := Lib.hid (HR4.out.only2 hOr)
            have HB6 := Lib.hid (show Blk w6 w4.heap.size 33 #[iv 6, iv 0, fv 0, .string ⟨#[]⟩, .slice a l.length cap] from hB)
            have HL6 := Lib.hid ((show VIs w F (.mk 6 0 0 ⟨#[]⟩ l) [iv 6, iv 0, fv 0, .string ⟨#[]⟩, .slice a l.length cap] from
              .mk css (by decide) (by decide) (by omega) (Nat.zero_le _) h1 h2 HC.out HI.out).only0 (HO.out.trans HR6.out.only_nil))
            have HLT := Lib.hid HR6.out.sl.lt
            clear hB hO2 hOr HR4
            have HQ := Lib.hid (Key_ok HL6.out)
            rw [HIX.out] at HQ
            have p0 := HB6.out.cell 0
            have p1 := HB6.out.cell 1
            have p2 := HB6.out.cell 2
            have p3 := HB6.out.cell 3
            have p4 := HB6.out.cell 4
            simp at p0 p1 p2 p3 p4
            go_wp2_with fail
            refine HQ.out.mono ?_
            clear HQ p0 p1 p2 p3 p4
            rintro e w7 ⟨kv, rfl, hsl, hkb, ho⟩
            have HKB := Lib.hid hkb
            have hsl2 : Sl w7 5 1 kv (6 :: (pkeys l ++ [0])).length ((6 :: (pkeys l ++ [0])).map bv) := by rw [← HKX.out]; exact hsl
            have HS7 := Lib.hid hsl2
            have HR7 := Lib.hid (HR6.out.only2 ho)
            have HB7 := Lib.hid (HB6.out.only ho (by simp))
            have HL7 := Lib.hid (HL6.out.only0 ho)
            clear HR6 HB6 HL6 ho hsl hsl2
            have HQ := Lib.hid (vsize_ok HL7.out)
            rw [HSX.out] at HQ
            have p0 := HB7.out.cell 0
            have p1 := HB7.out.cell 1
            have p2 := HB7.out.cell 2
            have p3 := HB7.out.cell 3
            have p4 := HB7.out.cell 4
            simp at p0 p1 p2 p3 p4
            go_wp2_with fail
            refine HQ.out.mono ?_
            clear HQ p0 p1 p2 p3 p4
            rintro e w8 ⟨rfl, ho⟩
            have HR8 := Lib.hid (HR7.out.only2 ho)
            have HS8 := Lib.hid (HS7.out.only ho (fun _ _ => by simp))
            clear HR7 HB7 HL7 ho hkb
            have hpk : (pkeys l).length ≤ 618475290624 := by have := HPL.out; omega
            have HRa := Lib.hid (HR8.out.only2 ((Only.refl [] w8).alloc (.cells #[bv 0] 5)))
            have HZa := Lib.hid (show Sl (w8.alloc (.cells #[bv 0] 5)) 5 1 (.slice (some ⟨w8.heap.size, 0, none⟩) 1 1) 1 [bv 0] from ⟨rfl, .inr ⟨_, 0, 1, _, rfl, Blk.new _ _ _, Nat.le_refl _, by decide, Nat.le_refl _, rfl⟩⟩)
            go_wp2_with (at_builtin; refine wpList_append_slsG (by rfl) (.tmp 113) (.tmp 114) 28 rfl 5 j5 _ 1 1 Try.underlying28 si sz0 sz1 sz2 rfl (by decide) rfl HRa.out.sl rfl HZa.out (by simp [Value.oneCell']) (by unfold maxLen; omega) (by omega) ?_)
            intro b2 w9 hS hg hat
            have HRb := Lib.hid ((HRa.out.append hS hg hat (by simp)).cast (m := (6 :: (pkeys l ++ [0])).length) (ys := (6 :: (pkeys l ++ [0])).map bv) (by simp; omega) (by simp))
            have HS9 := Lib.hid (show Sl w9 5 1 kv (6 :: (pkeys l ++ [0])).length ((6 :: (pkeys l ++ [0])).map bv) from
              (HS8.out.alloc _).keep fun g hgg => hg.block g ((HS8.out.alloc (.cells #[bv 0] 5)).lt g hgg) fun e => by
                have h1 := HLT.out g e.symm
                have h2 := HKB.out g hgg
                omega)
            clear hS hg hat HRa HZa HS8 HR8
            have hb6 : ∀ c ∈ 6 :: (pkeys l ++ [0]), c < 256 := fun c hc => by
              rcases List.mem_cons.1 hc with rfl | hc
              · decide
              · rcases List.mem_append.1 hc with hc | hc
                · exact pkeys_byte l c hc
                · simp at hc; omega
            have HQ := Lib.hid (eqB_ok (bytes_of_sl HS9.out hb6) (bytes_of_sl HRb.out.sl hb6))
            rw [decide_eq_true (rfl : 6 :: (pkeys l ++ [0]) = 6 :: (pkeys l ++ [0]))] at HQ
            clear hb6
            go_wp2_with fail
            refine HQ.out.mono ?_
            clear HQ
            rintro e w10 ⟨rfl, ho⟩
            go_wp2
            exact bodyPost_ret (results_tmp rfl _ _ _) rfl ⟨rfl, HO.out.trans (HRb.out.only_nil.trans ho)⟩
          · have hsz : (65536 : Int) < 1 + (psize l : Int) := by omega
            clear hs
            go_wp2
            exact bodyPost_ret (results_tmp rfl _ _ _) rfl ⟨rfl, HO.out.trans HR4.out.only_nil⟩
end Go.Proofs.Ytffdfegelgpniaa
/-
  ValueParts: a slice of values, and a text, as arguments; what the bound on the input's bulk gives.
-/
set_option linter.unusedSimpArgs false
set_option linter.unusedVariables false
namespace Go.Proofs.Ytffdfegelgpniaa
open Go.RowKit Go.Fl Go.ChangeShapes Go.WideShapes Go.Deep

theorem bulk_one {H : Type} (d : DataW H) : 1 ≤ Rows.uptoBulk d := by
  cases d with
  | lit l => cases l <;> simp [Rows.uptoBulk]
  | nil => simp [Rows.uptoBulk]
  | ptr d => simp [Rows.uptoBulk]
  | slice elems spare => simp [Rows.uptoBulk]
  | agg parts => simp [Rows.uptoBulk]
  | iface t d => simp [Rows.uptoBulk]
  | map entries => simp [Rows.uptoBulk]
  | held h => simp [Rows.uptoBulk]
theorem bulk_part {H : Type} {d : DataW H} : ∀ {l : List (DataW H)}, d ∈ l → Rows.uptoBulk d ≤ Rows.uptoBulkAll l
  | [], h => by cases h
  | x :: r, h => by
    simp only [Rows.uptoBulkAll]
    rcases List.mem_cons.1 h with e | e
    · subst e; omega
    · have := bulk_part e
      omega
theorem bulk_len {H : Type} : ∀ (l : List (DataW H)), l.length ≤ Rows.uptoBulkAll l
  | [] => Nat.zero_le _
  | x :: r => by
    simp only [Rows.uptoBulkAll, List.length_cons]
    have h1 := bulk_one x
    have h2 := bulk_len r
    omega
section
variable {H : Type} {enc : TypeId × Value → H} {w : World}
set_option maxRecDepth 100000 in
theorem open_vals {r : Reach} {b0 : Nat} {v : Value} {d : DataW H} {ps : List MemPlace} (hval : Value.okWide Try.prog w r b0 31 v) (h : DataW.Trod enc Try.prog w 0 (fun _ => true) true 31 v d ps) : ∃ l, VL w (· < w.heap.size) l v ∧ l.length ≤ Rows.uptoBulk d := by
  obtain ⟨a, len, cap, rfl⟩ := okWide_slice Try.underlying31 hval
  obtain ⟨fuel, h⟩ := h
  have hc33 : Try.prog.cellsOf 33 = 5 := by kernel_rfl
  rcases DataW.trod_slice Try.underlying31 h with ⟨e, _⟩ | ⟨a', len', cap', elems, rest, m, hm, e, hx, _, hl, hcap, hel, hall, _, _⟩
  · simp [Value.cells] at e
    obtain ⟨rfl, rfl, rfl⟩ := e
    exact ⟨[], ⟨none, 0, fun _ => [], rfl, Nat.le_refl _, Nat.zero_le _, fun h => absurd h (Nat.not_lt_zero _), fun j h => absurd h (Nat.not_lt_zero _)⟩, Nat.zero_le _⟩
  · simp [Value.cells] at e
    obtain ⟨rfl, rfl, rfl⟩ := e
    have hone : ∀ j, j < len → ∃ v cs', VIs w (· < w.heap.size) v cs' ∧ w.cells? 0 (a'.add (j * 5)) 5 = some cs' := fun j hj => by
      have h5 := hall j hj
      rw [hc33] at h5
      have h6 : elems[j]? = some (elems[j]'(by omega)) := List.getElem?_eq_getElem _
      rw [h6] at h5
      obtain ⟨cs', h7, h8⟩ := Option.bind_eq_some_iff.1 h5
      obtain ⟨v, hv⟩ := open_cells m cs' _ h8
      exact ⟨v, cs', hv, h7⟩
    obtain ⟨l, hll, hp⟩ := list_of (p := fun j v => ∃ cs', VIs w (· < w.heap.size) v cs' ∧ w.cells? 0 (a'.add (j * 5)) 5 = some cs') len hone
    subst hll
    have hcell : ∀ j (h : j < l.length), ∀ c u, ((hp j h).choose)[c]? = some u → w.cell? ((a'.add (j * 5)).add c) = some u := fun j h c u hu => by
      have h7 := (hp j h).choose_spec.2
      obtain ⟨_, hlen5, hat5⟩ := World.cells?_some h7
      by_cases hc : c < 5
      · exact (hat5 c hc).trans hu
      · rw [List.getElem?_eq_none (by omega)] at hu; cases hu
    refine ⟨l, ⟨some a', cap, fun j => if h : j < l.length then (hp j h).choose else [], rfl, hl, hcap, fun hn => ?_, fun j h => ?_⟩, ?_⟩
    · obtain ⟨d0, d1, d2, d3, d4, d5, d6, hd⟩ := ((hp 0 hn).choose_spec.1).five
      have h7 := hcell 0 hn 0 (iv d0) (by rw [hd]; rfl)
      have hsp : a'.spot = none := by simpa [Addr.add] using spot_none h7
      have hlt : a'.block < w.heap.size := by simpa [Addr.add] using cell_lt h7
      obtain ⟨g, off, sp⟩ := a'
      simp only at hsp
      subst hsp
      refine ⟨g, off, rfl, hlt, hlt, fun j c u hj hu => ?_⟩
      simp only [hj, dif_pos] at hu
      have h8 := hcell j hj c u hu
      rw [Addr.add_lit, Addr.add_lit] at h8
      exact h8
    · simp only [h, dif_pos]
      exact (hp j h).choose_spec.1
    · have hd : d = .slice (elems.map (·.1)) (rest.map (·.1)) := by injection hx
      have := bulk_len (elems.map (·.1))
      rw [List.length_map, hel] at this
      rw [hd]
      simp only [Rows.uptoBulk]
      omega
end
theorem parts_row (w : World) (s : Value) (l : List V) (h : VL w (· < w.heap.size) l s) (t : ByteArray) (ht : t.size ≤ maxLen) (hb : l.length ≤ 1048576) : Calls Try.prog 5 #[s, .string t] w fun e w' => e = .returned (.bool true) ∧ Only [] w w' :=
  parts_ok w t h hb ht
end Go.Proofs.Ytffdfegelgpniaa
