/-
  The document's Key.
-/
import Derived.Test.YtffdfegelgpniaaZDg
set_option linter.unusedSimpArgs false
set_option linter.unusedVariables false
set_option linter.unusedSimpArgs false
set_option linter.unusedVariables false
namespace Go.Proofs.Ytffdfegelgpniaa
open Go.RowKit Go.Fl

theorem takes_get : ∀ (l : List V) (nest : Nat) (room : Int) (ys : List I), (takes l nest room).1 = some ys → ∀ (k : Nat) (h1 : k < l.length) (h2 : k < ys.length), ∃ (n2 : Nat) (r2 : Int), (l[k].take n2 r2).1 = some ys[k]
  | [], _, _, _, _, k, h1, _ => absurd h1 (Nat.not_lt_zero _)
  | v :: l, nest, room, ys, h, k, h1, h2 => by
    cases hh : v.take nest room with
    | mk a b =>
      cases a with
      | none => simp [takes, hh] at h
      | some y =>
        simp only [takes, hh] at h
        cases hl : (takes l nest b).1 with
        | none => rw [hl] at h; cases h
        | some zs =>
          rw [hl] at h
          injection h with h
          subst h
          cases k with
          | zero => exact ⟨nest, room, by rw [List.getElem_cons_zero, hh]; rfl⟩
          | succ k =>
            obtain ⟨n2, r2, h3⟩ := takes_get l nest b zs hl k (by simpa using h1) (by simpa using h2)
            exact ⟨n2, r2, by simpa using h3⟩
def KeyOk2 (v : V) : Prop := ∀ (nest : Nat) (room : Int) (x : I), (v.take nest room).1 = some x → ∀ (w : World) (F : Nat → Prop) (cs : List Value) (b : Value) (n : Nat) (xs : List Value), VIs w F v cs → Sl w 5 1 b n xs → (∀ g, F g → b.ownBlock ≠ some g) → n + 9 * x.size ≤ 2 ^ 40 →
  Calls Try.prog 45 #[b, .agg cs.toArray] w (KeyPost w b n xs x.key)
set_option maxRecDepth 100000 in
set_option maxHeartbeats 3200000 in
theorem key2_step (v : V) (H : ∀ x ∈ v.kids, KeyOk2 x) : KeyOk2 v := by
  intro nest room x htake w F cs b n xs hv hs hF hn
  obtain ⟨j5, si, sz0, sz1, sz2⟩ := info_parts info5
  cases hv with
  | @mk k i r t l a cap css wk wi wr0 wt hlen hmax hcell hvs =>
  have HC := Lib.hid hcell
  have HV := Lib.hid hvs
  have HH := Lib.hid (fun (j : Nat) (h : j < l.length) => H l[j] (show l[j] ∈ (V.mk k i r t l).kids from List.getElem_mem h))
  have HFF := Lib.hid hF
  clear hcell hvs H
  have hlm : l.length ≤ maxLen := by omega
  unfold maxLen at hlm
  obtain ⟨ba, bc, hbv, _, _⟩ := hs.shape
  subst hbv
  obtain ⟨w0, hw0⟩ : ∃ x : World, x = w.alloc (.cells #[iv k, iv i, fv r, .string t, .slice a l.length cap] 33) := ⟨_, rfl⟩
  have HW0 := Lib.hid hw0
  have HB0 := Lib.hid (show Blk w0 w.heap.size 33 #[iv k, iv i, fv r, .string t, .slice a l.length cap] by rw [hw0]; exact Blk.new _ _ _)
  have hbn : (Value.slice ba n bc).ownBlock ≠ some w.heap.size := fun e => by have := hs.lt w.heap.size e; omega
  have HG := Lib.hid (show Gr w0 w0 (.slice ba n bc) (.slice ba n bc) n xs by rw [hw0]; exact Gr.refl (hs.alloc _))
  have HO0 := Lib.hid (show Only [] w w0 by rw [hw0]; exact (Only.refl _ _).alloc _)
  have HPO := Lib.hid (show ∀ (bs : List Nat) (b' : Value) (w' : World), Gr w0 w' (.slice ba n bc) b' (n + bs.length) (xs ++ bs.map bv) → KeyPost w (.slice ba n bc) n xs bs (.returned b') w' from fun bs b' w' h => ⟨b', rfl, h.sl, fun g hg => by
    rcases h.own g hg with e | e
    · exact .inl e
    · exact .inr (Nat.le_trans HO0.out.size e), (HO0.out.mono (by simp)).trans h.only⟩)
  clear hw0
  have hsz := I.size_pos x
  rcases take_form htake with ⟨e, rfl, e2⟩ | ⟨e, rfl⟩ | ⟨e, rfl⟩ | ⟨e, rfl⟩ | ⟨e, rfl⟩ | ⟨e, ys, rfl, e2⟩
  · subst e
    subst e2
    have hn : n + 9 ≤ 2 ^ 40 := hn
    have HEV := Lib.hid (show I.void.key = [1] from rfl)
    rw [show ([] : List V).length = 0 from rfl] at HW0 HB0
    go_enter Try.func45, Try.ntmps45
    go_upto_region 1 with fail
    rw [← HW0.out]
    have x0 := HB0.out.cell 0
    simp at x0
    go_wp2_with (at_builtin; refine wpList_append_one (news := [_]) rfl (.tmp 7) (.tmp 11) 28 rfl 5 j5 _ 1 1 Try.underlying28 si sz0 sz1 sz2 rfl (by decide) rfl (HG.out.alloc _).sl rfl (Blk.new _ _ _) rfl (by simp [Value.oneCell']) (by unfold maxLen; omega) (by omega) ?_)
    intro b' w' hS hg hat
    have HK := Lib.hid (((HG.out.alloc _).append hS hg hat (by simp)).cast (m := n + 1) (ys := xs ++ [bv 1]) (by omega) (by first | (simp; done) | (simp; omega)))
    clear hS hg hat
    clear x0
    obtain ⟨kb, kc, hkb, _, _⟩ := HK.out.sl.shape
    subst hkb
    have hbx := HB0.out.only HK.out.only (by simpa using hbn)
    have x0 := hbx.cell 0
    have x1 := hbx.cell 1
    have x2 := hbx.cell 2
    have x3 := hbx.cell 3
    have x4 := hbx.cell 4
    simp at x0 x1 x2 x3 x4
    clear hbx
    go_wp2
    exact bodyPost_ret (results_tmp rfl _ _ _) rfl (by rw [HEV.out]; exact HPO.out [1] _ _ HK.out)
  · subst e
    have hn : n + 9 ≤ 2 ^ 40 := hn
    go_enter Try.func45, Try.ntmps45
    go_upto_region 1 with fail
    rw [← HW0.out]
    have x0 := HB0.out.cell 0
    simp at x0
    go_wp2_with (at_builtin; refine wpList_append_one (news := [_]) rfl (.tmp 7) (.tmp 11) 28 rfl 5 j5 _ 1 1 Try.underlying28 si sz0 sz1 sz2 rfl (by decide) rfl (HG.out.alloc _).sl rfl (Blk.new _ _ _) rfl (by simp [Value.oneCell']) (by unfold maxLen; omega) (by omega) ?_)
    intro b' w' hS hg hat
    have HK := Lib.hid (((HG.out.alloc _).append hS hg hat (by simp)).cast (m := n + 1) (ys := xs ++ [bv 2]) (by omega) (by first | (simp; done) | (simp; omega)))
    clear hS hg hat
    clear x0
    obtain ⟨kb, kc, hkb, _, _⟩ := HK.out.sl.shape
    subst hkb
    have hbx := HB0.out.only HK.out.only (by simpa using hbn)
    have x0 := hbx.cell 0
    have x1 := hbx.cell 1
    have x2 := hbx.cell 2
    have x3 := hbx.cell 3
    have x4 := hbx.cell 4
    simp at x0 x1 x2 x3 x4
    clear hbx
    go_wp2_with (at_builtin; refine wpList_append_one (news := [_]) rfl (.tmp 17) (.tmp 21) 28 rfl 5 j5 _ 1 1 Try.underlying28 si sz0 sz1 sz2 rfl (by decide) rfl (HK.out.alloc _).sl rfl (Blk.new _ _ _) rfl (by simp [Value.oneCell']) (by unfold maxLen; omega) (by omega) ?_)
    intro b' w' hS hg hat
    have HM := Lib.hid (((HK.out.alloc _).append hS hg hat (by simp)).cast (m := n + 2) (ys := xs ++ [bv 2, bv (i % 256).toNat]) (by omega) (by first | (simp; done) | (simp; omega)))
    clear hS hg hat
    go_wp2
    exact bodyPost_ret (results_tmp rfl _ _ _) rfl (HPO.out [2, (i % 256).toNat] _ _ HM.out)
  · subst e
    have hn : n + 9 ≤ 2 ^ 40 := hn
    have wt := wi
    go_enter Try.func45, Try.ntmps45
    go_upto_region 1 with fail
    rw [← HW0.out]
    have x0 := HB0.out.cell 0
    simp at x0
    go_wp2_with (at_builtin; refine wpList_append_one (news := [_]) rfl (.tmp 7) (.tmp 11) 28 rfl 5 j5 _ 1 1 Try.underlying28 si sz0 sz1 sz2 rfl (by decide) rfl (HG.out.alloc _).sl rfl (Blk.new _ _ _) rfl (by simp [Value.oneCell']) (by unfold maxLen; omega) (by omega) ?_)
    intro b' w' hS hg hat
    have HK := Lib.hid (((HG.out.alloc _).append hS hg hat (by simp)).cast (m := n + 1) (ys := xs ++ [bv 3]) (by omega) (by first | (simp; done) | (simp; omega)))
    clear hS hg hat
    clear x0
    obtain ⟨kb, kc, hkb, _, _⟩ := HK.out.sl.shape
    subst hkb
    have hbx := HB0.out.only HK.out.only (by simpa using hbn)
    have x0 := hbx.cell 0
    have x1 := hbx.cell 1
    have x2 := hbx.cell 2
    have x3 := hbx.cell 3
    have x4 := hbx.cell 4
    simp at x0 x1 x2 x3 x4
    clear hbx
    go_wp2_with fail
    have e : bits .xor .u64 (IntKind.u64.wrap i) 9223372036854775808 = ((i + 9223372036854775808).toNat : Int) := by
      simp only [Lit.wf, IntKind.min, IntKind.max, IntKind.bits, IntKind.signed] at wt
      simp at wt
      have h1 : IntKind.u64.wrap i = ((i % 18446744073709551616).toNat : Int) := by rw [IntKind.wrap_u64]; omega
      rw [h1, bits_top (by omega)]
      omega
    rw [e]
    clear e
    have hml : (i + 9223372036854775808).toNat < 18446744073709551616 := by
      simp only [Lit.wf, IntKind.min, IntKind.max, IntKind.bits, IntKind.signed] at wt
      simp at wt
      omega
    have HE := Lib.hid (show (I.whole i).key = 3 :: big8 (i + 9223372036854775808).toNat from rfl)
    generalize (i + 9223372036854775808).toNat = m at *
    refine (big_ok HK.out.sl (by omega) hml).mono ?_
    rintro e w2 ⟨b2, rfl, hg⟩
    have HN := Lib.hid ((HK.out.trans hg).cast (m := n + 9) (ys := xs ++ (bv 3 :: (big8 m).map bv)) (by simp [big8]) (by simp))
    clear hg x0 x1 x2 x3 x4
    go_wp2
    exact bodyPost_ret (results_tmp rfl _ _ _) rfl (by rw [HE.out]; exact HPO.out (3 :: big8 m) _ _ HN.out)
  · subst e
    have hn : n + 9 ≤ 2 ^ 40 := hn
    go_enter Try.func45, Try.ntmps45
    go_upto_region 1 with fail
    rw [← HW0.out]
    have x0 := HB0.out.cell 0
    simp at x0
    go_wp2_with (at_builtin; refine wpList_append_one (news := [_]) rfl (.tmp 7) (.tmp 11) 28 rfl 5 j5 _ 1 1 Try.underlying28 si sz0 sz1 sz2 rfl (by decide) rfl (HG.out.alloc _).sl rfl (Blk.new _ _ _) rfl (by simp [Value.oneCell']) (by unfold maxLen; omega) (by omega) ?_)
    intro b' w' hS hg hat
    have HK := Lib.hid (((HG.out.alloc _).append hS hg hat (by simp)).cast (m := n + 1) (ys := xs ++ [bv 4]) (by omega) (by first | (simp; done) | (simp; omega)))
    clear hS hg hat
    clear x0
    obtain ⟨kb, kc, hkb, _, _⟩ := HK.out.sl.shape
    subst hkb
    have hbx := HB0.out.only HK.out.only (by simpa using hbn)
    have x0 := hbx.cell 0
    have x1 := hbx.cell 1
    have x2 := hbx.cell 2
    have x3 := hbx.cell 3
    have x4 := hbx.cell 4
    simp at x0 x1 x2 x3 x4
    clear hbx
    go_wp2_with fail
    refine (key2_ok _ r wr0).mono ?_
    rintro e w1 ⟨rfl, rfl⟩
    have HEV := Lib.hid (show (I.number r).key = 4 :: big8 (keyR r) from rfl)
    have hkm := keyR_lt wr0
    generalize keyR r = m at *
    go_wp2_with fail
    refine (big_ok HK.out.sl (by omega) hkm).mono ?_
    rintro e w2 ⟨b2, rfl, hg⟩
    have HN := Lib.hid ((HK.out.trans hg).cast (m := n + 9) (ys := xs ++ (bv 4 :: (big8 m).map bv)) (by simp [big8]) (by simp))
    clear hg x0 x1 x2 x3 x4
    go_wp2
    exact bodyPost_ret (results_tmp rfl _ _ _) rfl (by rw [HEV.out]; exact HPO.out (4 :: big8 m) _ _ HN.out)
  · subst e
    have hn : n + 9 * (1 + t.size) ≤ 2 ^ 40 := hn
    have htl : t.size ≤ 2 ^ 40 := by omega
    have HEV := Lib.hid (show (I.text t).key = 5 :: (esc t.data.toList ++ [0, 1]) from rfl)
    go_enter Try.func45, Try.ntmps45
    go_upto_region 1 with fail
    rw [← HW0.out]
    have x0 := HB0.out.cell 0
    simp at x0
    go_wp2_with (at_builtin; refine wpList_append_one (news := [_]) rfl (.tmp 7) (.tmp 11) 28 rfl 5 j5 _ 1 1 Try.underlying28 si sz0 sz1 sz2 rfl (by decide) rfl (HG.out.alloc _).sl rfl (Blk.new _ _ _) rfl (by simp [Value.oneCell']) (by unfold maxLen; omega) (by omega) ?_)
    intro b' w' hS hg hat
    have HK := Lib.hid (((HG.out.alloc _).append hS hg hat (by simp)).cast (m := n + 1) (ys := xs ++ [bv 5]) (by omega) (by first | (simp; done) | (simp; omega)))
    clear hS hg hat
    clear x0
    obtain ⟨kb, kc, hkb, _, _⟩ := HK.out.sl.shape
    subst hkb
    have hbx := HB0.out.only HK.out.only (by simpa using hbn)
    have x0 := hbx.cell 0
    have x1 := hbx.cell 1
    have x2 := hbx.cell 2
    have x3 := hbx.cell 3
    have x4 := hbx.cell 4
    simp at x0 x1 x2 x3 x4
    clear hbx
    go_wp2
    clear x0 x1 x2 x3 x4
    go_loopw [0, 5] (fun v z wr => ∃ k : Nat, k ≤ t.size ∧ z = .int .i64 k ∧ Hid (Gr w0 wr (.slice ba n bc) v (n + 1 + (esc (t.data.toList.take k)).length) (xs ++ bv 5 :: (esc (t.data.toList.take k)).map bv))) (fun _ z _ => t.size - (intOf z).toNat)
    case atStart => exact ⟨0, by omega, rfl, Lib.hid (by simpa [esc] using HK.out)⟩
    case round =>
      obtain ⟨k, hk, rfl, HR⟩ := hrel
      have hel := esc_len (t.data.toList.take k)
      have hel2 : (t.data.toList.take k).length ≤ k := List.length_take_le _ _
      obtain ⟨kb, kc, hkb, _, _⟩ := HR.out.sl.shape
      subst hkb
      have hbx := HB0.out.only HR.out.only (by simpa using hbn)
      have x0 := hbx.cell 0
      have x1 := hbx.cell 1
      have x2 := hbx.cell 2
      have x3 := hbx.cell 3
      have x4 := hbx.cell 4
      simp at x0 x1 x2 x3 x4
      clear hbx
      by_cases hkt : k < t.size
      · have hkz : (k : Int) < (t.size : Int) := by omega
        have HE := Lib.hid (show esc (t.data.toList.take (k + 1)) = esc (t.data.toList.take k) ++ (if t[k] = 0 then [0, 255] else [t[k].toNat]) by
          have : t.data.toList.take (k + 1) = t.data.toList.take k ++ [t[k]] := by rw [List.take_succ_eq_append_getElem (by simpa using hkt)]; rfl
          rw [this, esc_append]
          simp [esc])
        generalize esc (t.data.toList.take k) = es at *
        go_wp2_with (at_builtin; refine wpList_append_one (news := [_]) rfl (.tmp 47) (.tmp 52) 28 rfl 5 j5 _ 1 1 Try.underlying28 si sz0 sz1 sz2 rfl (by decide) rfl (HR.out.alloc _).sl rfl (Blk.new _ _ _) rfl (by simp [Value.oneCell']) (by unfold maxLen; omega) (by omega) ?_)
        intro b' w' hS hg hat
        have HN := Lib.hid ((HR.out.alloc _).append hS hg hat (by simp))
        clear hS hg hat HR x0 x1 x2 x3 x4
        obtain ⟨kb, kc, hkb, _, _⟩ := HN.out.sl.shape
        subst hkb
        have hbx := HB0.out.only HN.out.only (by simpa using hbn)
        have x0 := hbx.cell 0
        have x1 := hbx.cell 1
        have x2 := hbx.cell 2
        have x3 := hbx.cell 3
        have x4 := hbx.cell 4
        simp at x0 x1 x2 x3 x4
        clear hbx
        by_cases hz : t[k] = 0
        · have hz1 : ((t[k].toNat : Int) == 0) = true := by rw [hz]; rfl
          go_wp2_with (at_builtin; refine wpList_append_one (news := [bv 255]) rfl (.tmp 59) (.tmp 60) 28 rfl 5 j5 _ 1 1 Try.underlying28 si sz0 sz1 sz2 rfl (by decide) rfl (HN.out.alloc _).sl rfl (Blk.new _ _ _) rfl (by simp [Value.oneCell']) (by unfold maxLen; omega) (by omega) ?_)
          intro b2 w2 hS hg hat
          have HM := Lib.hid (((HN.out.alloc _).append hS hg hat (by simp)).cast (m := n + 1 + (esc (t.data.toList.take (k + 1))).length) (ys := xs ++ bv 5 :: (esc (t.data.toList.take (k + 1))).map bv) (by rw [HE.out, if_pos hz]; simp; omega) (by rw [HE.out, if_pos hz]; simp [hz]))
          clear hS hg hat HN hz x0 x1 x2 x3 x4
          go_wp2
          go_roundw
          case measure => simp [intOf]; omega
          case rel => exact ⟨k + 1, by omega, by go_num, HM⟩
        · have hz1 : ((t[k].toNat : Int) == 0) = false := by
            rw [beq_eq_false_iff_ne]
            intro h
            exact hz (UInt8.toNat_inj.1 (by rw [show (0 : UInt8).toNat = 0 from rfl]; omega))
          have HM := Lib.hid (HN.out.cast (m := n + 1 + (esc (t.data.toList.take (k + 1))).length) (ys := xs ++ bv 5 :: (esc (t.data.toList.take (k + 1))).map bv) (by rw [HE.out, if_neg hz]; simp; omega) (by rw [HE.out, if_neg hz]; simp))
          clear hz HN
          go_wp2
          go_roundw
          case measure => simp [intOf]; omega
          case rel => exact ⟨k + 1, by omega, by go_num, HM⟩
      · obtain rfl : k = t.size := by omega
        have HT := Lib.hid (show t.data.toList.take t.size = t.data.toList from List.take_of_length_le (by rw [Array.length_toList]; exact Nat.le_refl _))
        go_wp2_with (at_builtin; refine wpList_append_many (m := 2) (news := [bv 0, bv 1]) rfl (.tmp 62) (.tmp 63) 28 rfl 5 j5 _ 1 1 Try.underlying28 si sz0 sz1 sz2 rfl (by decide) rfl (HR.out.alloc _).sl rfl (Blk.new _ _ _) rfl (by simp [Value.oneCell']) (by unfold maxLen; omega) (by omega) ?_)
        intro b2 w2 hS hg hat
        have HM := Lib.hid (((HR.out.alloc _).append hS hg hat (by simp)).cast (m := n + (5 :: (esc t.data.toList ++ [0, 1])).length) (ys := xs ++ (5 :: (esc t.data.toList ++ [0, 1])).map bv) (by rw [HT.out]; simp; omega) (by rw [HT.out]; simp))
        clear hS hg hat HR x0 x1 x2 x3 x4
        go_wp2
        exact bodyPost_ret (results_tmp rfl _ _ _) rfl (by rw [HEV.out]; exact HPO.out _ _ _ HM.out)
  · subst e
    have hn : n + 9 * (1 + sizes ys) ≤ 2 ^ 40 := hn
    have HTK := Lib.hid e2
    have HEV := Lib.hid (show (I.list ys).key = 6 :: (keys ys ++ [0]) from rfl)
    have HYL := Lib.hid (takes_eq l (nest + 1) (room - 1) ys e2)
    clear e2
    go_enter Try.func45, Try.ntmps45
    go_upto_region 1 with fail
    rw [← HW0.out]
    have x0 := HB0.out.cell 0
    simp at x0
    go_wp2_with (at_builtin; refine wpList_append_one (news := [_]) rfl (.tmp 7) (.tmp 11) 28 rfl 5 j5 _ 1 1 Try.underlying28 si sz0 sz1 sz2 rfl (by decide) rfl (HG.out.alloc _).sl rfl (Blk.new _ _ _) rfl (by simp [Value.oneCell']) (by unfold maxLen; omega) (by omega) ?_)
    intro b' w' hS hg hat
    have HK := Lib.hid (((HG.out.alloc _).append hS hg hat (by simp)).cast (m := n + 1) (ys := xs ++ [bv 6]) (by omega) (by first | (simp; done) | (simp; omega)))
    clear hS hg hat
    clear x0
    obtain ⟨kb, kc, hkb, _, _⟩ := HK.out.sl.shape
    subst hkb
    have hbx := HB0.out.only HK.out.only (by simpa using hbn)
    have x0 := hbx.cell 0
    have x1 := hbx.cell 1
    have x2 := hbx.cell 2
    have x3 := hbx.cell 3
    have x4 := hbx.cell 4
    simp at x0 x1 x2 x3 x4
    clear hbx
    go_wp2
    clear x0 x1 x2 x3 x4
    go_loopw [0, 6] (fun v z wr => ∃ k : Nat, k ≤ l.length ∧ z = .int .i64 k ∧ Hid (Gr w0 wr (.slice ba n bc) v (n + 1 + (keys (ys.take k)).length) (xs ++ bv 6 :: (keys (ys.take k)).map bv))) (fun _ z _ => l.length - (intOf z).toNat)
    case atStart => exact ⟨0, by omega, rfl, Lib.hid (by simpa [keys] using HK.out)⟩
    case round =>
      obtain ⟨k, hk, rfl, HR⟩ := hrel
      have hkl := keys_len (ys.take k)
      have hss : sizes ys = sizes (ys.take k) + sizes (ys.drop k) := by rw [← sizes_append, List.take_append_drop]
      obtain ⟨kb, kc, hkb, _, _⟩ := HR.out.sl.shape
      subst hkb
      have hbx := HB0.out.only HR.out.only (by simpa using hbn)
      have x0 := hbx.cell 0
      have x1 := hbx.cell 1
      have x2 := hbx.cell 2
      have x3 := hbx.cell 3
      have x4 := hbx.cell 4
      simp at x0 x1 x2 x3 x4
      clear hbx
      by_cases hkt : k < l.length
      · have hkz : (k : Int) < (l.length : Int) := by omega
        have hky : k < ys.length := by have := HYL.out; omega
        have hsd : sizes (ys.drop k) = ys[k].size + sizes (ys.drop (k + 1)) := by rw [List.drop_eq_getElem_cons hky]; rfl
        have HE := Lib.hid (show keys (ys.take (k + 1)) = keys (ys.take k) ++ ys[k].key by rw [List.take_succ_eq_append_getElem hky, keys_append]; simp [keys])
        obtain ⟨n2, r2, htk⟩ := takes_get l (nest + 1) (room - 1) ys HTK.out k hkt hky
        obtain ⟨g, off, rfl, hg, hFg, hcc⟩ := HC.out (by omega)
        have hgn : g ∉ (Value.slice ba n bc).ownBlock.toList := by
          intro hm
          exact HFF.out g hFg (by simpa using hm)
        have hv := HV.out k hkt
        obtain ⟨c0, c1, c2, c3, c4, c5, c6, hcs⟩ := hv.five
        have hON : Only (Value.slice ba n bc).ownBlock.toList w wr := (HO0.out.mono (by simp)).trans HR.out.only
        have hx : ∀ c u, (css k)[c]? = some u → wr.cell? ⟨g, off + k * 5 + c, none⟩ = some u := fun c u hu => (hON.cell (p := ⟨g, off + k * 5 + c, none⟩) hg hgn).trans (hcc k c u hkt hu)
        have y0 := hx 0 (iv c0) (by rw [hcs]; rfl)
        have y1 := hx 1 (iv c1) (by rw [hcs]; rfl)
        have y2 := hx 2 (fv c2) (by rw [hcs]; rfl)
        have y3 := hx 3 (.string c3) (by rw [hcs]; rfl)
        have y4 := hx 4 (.slice c4 c5 c6) (by rw [hcs]; rfl)
        rw [Nat.add_zero] at y0
        have hvr : VIs wr (fun g => F g ∧ g < w.heap.size) l[k] (css k) := hv.keep hON.size (fun g hf hl => hON.block g hl (fun hm => HFF.out g hf (by simpa using hm))) (fun g hf hl => ⟨hf, hl⟩)
        have HT := Lib.hid (HH.out k hkt n2 r2 ys[k] htk wr _ (css k) _ _ _ hvr HR.out.sl (fun g hg e => by
          rcases HR.out.own g e with e2 | e2
          · exact HFF.out g hg.1 e2
          · have := hg.2; have := HO0.out.size; omega) (by omega))
        rw [hcs] at HT
        clear hx hcc HC hv hvr hON hgn
        generalize keys (ys.take k) = es at *
        generalize ys[k] = xk at *
        go_wp2_with fail
        refine HT.out.mono ?_
        clear HT x0 x1 x2 x3 x4 y0 y1 y2 y3 y4
        rintro e w2 ⟨b2, rfl, hg2⟩
        have HM := Lib.hid ((HR.out.trans hg2).cast (m := n + 1 + (keys (ys.take (k + 1))).length) (ys := xs ++ bv 6 :: (keys (ys.take (k + 1))).map bv) (by rw [HE.out]; simp; omega) (by rw [HE.out]; simp))
        clear hg2 HR HE
        go_wp2
        go_roundw
        case measure => simp [intOf]; omega
        case rel => exact ⟨k + 1, by omega, by go_num, HM⟩
      · obtain rfl : k = l.length := by omega
        have HTL := Lib.hid (show ys.take l.length = ys from List.take_of_length_le (by have := HYL.out; omega))
        clear HYL
        go_wp2_with (at_builtin; refine wpList_append_one (news := [bv 0]) rfl (.tmp 81) (.tmp 82) 28 rfl 5 j5 _ 1 1 Try.underlying28 si sz0 sz1 sz2 rfl (by decide) rfl (HR.out.alloc _).sl rfl (Blk.new _ _ _) rfl (by simp [Value.oneCell']) (by unfold maxLen; omega) (by omega) ?_)
        intro b2 w2 hS hg hat
        have HM := Lib.hid (((HR.out.alloc _).append hS hg hat (by simp)).cast (m := n + (6 :: (keys ys ++ [0])).length) (ys := xs ++ (6 :: (keys ys ++ [0])).map bv) (by rw [HTL.out]; simp; omega) (by rw [HTL.out]; simp))
        clear hS hg hat HR x0 x1 x2 x3 x4
        go_wp2
        exact bodyPost_ret (results_tmp rfl _ _ _) rfl (by rw [HEV.out]; exact HPO.out _ _ _ HM.out)
theorem key2_all (v : V) : KeyOk2 v := by
  refine V.rec (motive_1 := KeyOk2) (motive_2 := fun l => ∀ x ∈ l, KeyOk2 x) ?_ ?_ ?_ v
  · intro k i r t l ih
    exact key2_step _ ih
  · intro x hx; cases hx
  · intro a l ha hl x hx
    rcases List.mem_cons.1 hx with rfl | hx
    · exact ha
    · exact hl x hx
set_option maxRecDepth 100000 in
theorem Key2_ok {w : World} {F : Nat → Prop} {v : V} {cs : List Value} (h : VIs w F v cs) : Calls Try.prog 27 #[.agg cs.toArray] w (KeyRes w v.item) := by
  have H := Lib.hid h
  obtain ⟨k, i, r, t, a, n, cap, rfl⟩ := h.five
  clear h
  obtain ⟨w0, hw0⟩ : ∃ x : World, x = w.alloc (.cells #[iv k, iv i, fv r, .string t, .slice a n cap] 33) := ⟨_, rfl⟩
  have HW0 := Lib.hid hw0
  have HO0 := Lib.hid (show Only [] w w0 by rw [hw0]; exact (Only.refl _ w).alloc _)
  have HB1 := Lib.hid (show Blk w0 w.heap.size 33 #[iv k, iv i, fv r, .string t, .slice a n cap] by rw [hw0]; exact Blk.new _ _ _)
  clear hw0
  have HT := Lib.hid (may2_ok (H.out.only0 HO0.out))
  go_enter Try.func27, Try.ntmps27
  go_wp2_with fail
  rw [← HW0.out]
  refine HT.out.mono ?_
  clear HT
  rintro e w2 ⟨rfl, ho⟩
  have HO := Lib.hid (HO0.out.trans ho)
  have HC1 := Lib.hid (HB1.out.only ho (by simp))
  clear ho HB1
  cases hx : v.item with
  | none =>
    have hma : v.may = false := by unfold V.may; rw [hx]; rfl
    rw [hma]
    have HX := Lib.hid hx
    clear hx hma
    go_wp2
    exact bodyPost_ret (results2 rfl (res_tmp rfl) (res_tmp rfl)) rfl (by rw [HX.out]; exact ⟨.slice none 0 0, rfl, Sl.nil _ _ _, (fun g hg => by cases hg), HO.out⟩)
  | some x =>
    have hma : v.may = true := by unfold V.may; rw [hx]; rfl
    rw [hma]
    have hsz := item_size hx
    have HS := Lib.hid (key2_all v 0 65536 x hx w2 _ _ (.slice none 0 0) 0 [] (H.out.only0 HO.out) (Sl.nil _ _ _) (fun g _ h => by cases h) (by omega))
    have HX := Lib.hid hx
    have x0 := HC1.out.cell 0
    have x1 := HC1.out.cell 1
    have x2 := HC1.out.cell 2
    have x3 := HC1.out.cell 3
    have x4 := HC1.out.cell 4
    simp at x0 x1 x2 x3 x4
    clear hx hma
    go_wp2_with fail
    refine HS.out.mono ?_
    clear HS x0 x1 x2 x3 x4
    rintro e w3 ⟨b, rfl, hg⟩
    have HG := Lib.hid hg
    clear hg
    go_wp2
    refine bodyPost_ret (results2 rfl (res_tmp rfl) (res_tmp rfl)) rfl ?_
    rw [HX.out]
    refine ⟨b, rfl, ?_, (fun g hg => ?_), HO.out.trans HG.out.only⟩
    · simpa using HG.out.sl
    · rcases HG.out.own g hg with e | e
      · cases e
      · exact Nat.le_trans HO.out.size e
end Go.Proofs.Ytffdfegelgpniaa
