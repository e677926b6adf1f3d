/-
  Keys of items.
-/
import Derived.Test.YtffdfegelgpniaaZVk
set_option linter.unusedSimpArgs false
set_option linter.unusedVariables false
set_option linter.unusedSimpArgs false
set_option linter.unusedVariables false
namespace Go.Proofs.Ytffdfegelgpniaa
open Go.RowKit Go.Fl

/-- A text's bytes, 00 as 00 ff. -/
def esc : List UInt8 → List Nat
  | [] => []
  | c :: l => (if c = 0 then [0, 255] else [c.toNat]) ++ esc l
theorem esc_append : ∀ (a b : List UInt8), esc (a ++ b) = esc a ++ esc b
  | [], _ => rfl
  | c :: a, b => by simp only [List.cons_append, esc, esc_append a b, List.append_assoc]
theorem esc_len : ∀ (a : List UInt8), (esc a).length ≤ 2 * a.length
  | [] => Nat.le_refl _
  | c :: a => by
    have := esc_len a
    simp only [esc, List.length_append, List.length_cons]
    split <;> simp <;> omega
mutual
def I.key : I → List Nat
  | .void => [1]
  | .truth n => [2, (n % 256).toNat]
  | .whole n => 3 :: big8 (n + 9223372036854775808).toNat
  | .number b => 4 :: big8 (keyR b)
  | .text t => 5 :: (esc t.data.toList ++ [0, 1])
  | .list l => 6 :: (keys l ++ [0])
def keys : List I → List Nat
  | [] => []
  | x :: l => x.key ++ keys l
end
theorem keys_append : ∀ (a b : List I), keys (a ++ b) = keys a ++ keys b
  | [], _ => rfl
  | x :: a, b => by simp only [List.cons_append, keys, keys_append a b, List.append_assoc]
mutual
theorem key_len : ∀ (x : I), x.key.length ≤ 9 * x.size
  | .void => by simp [I.key, I.size]
  | .truth n => by simp [I.key, I.size]
  | .whole n => Nat.le_refl 9
  | .number n => Nat.le_refl 9
  | .text t => by
    have := esc_len t.data.toList
    simp only [I.key, I.size, List.length_cons, List.length_append, List.length_nil]
    have e : t.data.toList.length = t.size := Array.length_toList
    omega
  | .list l => by
    have := keys_len l
    simp only [I.key, I.size, List.length_cons, List.length_append, List.length_nil]
    omega
theorem keys_len : ∀ (l : List I), (keys l).length ≤ 9 * sizes l
  | [] => Nat.le_refl _
  | x :: l => by
    have h1 := key_len x
    have h2 := keys_len l
    simp only [keys, sizes, List.length_append]
    omega
end
def I.f_key : I → FuncId
  | .void => 90 | .truth _ => 95 | .whole _ => 102 | .number _ => 110 | .text _ => 120 | .list _ => 128
theorem m_key {w : World} {F : Nat → Prop} {x : I} {u : Value} (h : IIs w F x u) (w' : World) : (method 235 x.typ u "flume/value.key").run Try.prog w' = .ok (x.f_key, u) w' := by
  cases h with
  | void => kernel_rfl
  | truth => kernel_rfl
  | whole => kernel_rfl
  | number => kernel_rfl
  | text => kernel_rfl
  | list => kernel_rfl
theorem c_key (x : I) (args : Array Value) (w : World) : (callFunc x.f_key args).run Try.prog w = .ok (.enter x.f_key args) w := by
  cases x <;> kernel_rfl
def KeyOk (x : I) : Prop := ∀ (w : World) (F : Nat → Prop) (u b : Value) (n : Nat) (xs : List Value), IIs w F x u → Sl w 5 1 b n xs → (∀ g, F g → b.ownBlock ≠ some g) → n + 9 * x.size ≤ 2 ^ 40 → Calls Try.prog x.f_key #[u, b] w (KeyPost w b n xs x.key)
set_option maxRecDepth 100000 in
theorem key_void : KeyOk .void := by
  intro w F u b n xs hu hs hF hn
  obtain ⟨j5, si, sz0, sz1, sz2⟩ := info_parts info5
  cases hu
  have hn : n + 9 ≤ 2 ^ 40 := hn
  have HG := Lib.hid ((Gr.refl hs).alloc (.cells #[] 103))
  clear hs
  show Calls Try.prog 90 _ w (KeyPost w b n xs [1])
  go_enter Try.func90, Try.ntmps90
  go_wp2_with (at_builtin; refine wpList_append_one (news := [bv 1]) rfl (.tmp 5) (.tmp 6) 28 rfl 5 j5 _ 1 1 Try.underlying28 si sz0 sz1 sz2 rfl (by decide) rfl (HG.out.alloc _).sl rfl (by have h := Blk.new (w.alloc (.cells #[] 103)) 5 #[bv 1]; rw [show (w.alloc (.cells #[] 103)).heap.size = w.heap.size + 1 by simp] at h; exact h) rfl (by simp [Value.oneCell']) (by unfold maxLen; omega) (by omega) ?_)
  intro b' w' hS hg hat
  have HK := Lib.hid ((HG.out.alloc _).append hS hg hat (by simp))
  clear hS hg hat
  go_wp2
  exact bodyPost_ret (results_tmp rfl _ _ _) rfl ⟨b', rfl, HK.out⟩
set_option maxRecDepth 100000 in
theorem key_truth (t : Int) : KeyOk (.truth t) := by
  intro w F u b n xs hu hs hF hn
  obtain ⟨j5, si, sz0, sz1, sz2⟩ := info_parts info5
  cases hu
  have hn : n + 9 ≤ 2 ^ 40 := hn
  have HG := Lib.hid (Gr.refl hs)
  clear hs
  show Calls Try.prog 95 _ w (KeyPost w b n xs [2, (t % 256).toNat])
  go_enter Try.func95, Try.ntmps95
  go_wp2_with (at_builtin; refine wpList_append_many (m := 2) (news := [bv 2, _]) rfl (.tmp 5) (.tmp 8) 28 rfl 5 j5 _ 1 1 Try.underlying28 si sz0 sz1 sz2 rfl (by decide) rfl (HG.out.alloc _).sl rfl (Blk.new _ _ _) rfl (by simp [Value.oneCell']) (by unfold maxLen; omega) (by omega) ?_)
  intro b' w' hS hg hat
  have HK := Lib.hid (((HG.out.alloc _).append hS hg hat (by simp)).cast (m := n + 2) (ys := xs ++ [bv 2, bv (t % 256).toNat]) (by omega) (by first | (simp; done) | (simp; omega)))
  clear hS hg hat
  go_wp2
  exact bodyPost_ret (results_tmp rfl _ _ _) rfl ⟨b', rfl, HK.out⟩
set_option maxRecDepth 100000 in
theorem key_whole (t : Int) : KeyOk (.whole t) := by
  intro w F u b n xs hu hs hF hn
  obtain ⟨j5, si, sz0, sz1, sz2⟩ := info_parts info5
  cases hu with
  | whole _ ht =>
  have hn : n + 9 ≤ 2 ^ 40 := hn
  have HG := Lib.hid (Gr.refl hs)
  clear hs
  show Calls Try.prog 102 _ w (KeyPost w b n xs (3 :: big8 (t + 9223372036854775808).toNat))
  go_enter Try.func102, Try.ntmps102
  go_wp2_with (at_builtin; refine wpList_append_one (news := [_]) rfl (.tmp 5) (.tmp 6) 28 rfl 5 j5 _ 1 1 Try.underlying28 si sz0 sz1 sz2 rfl (by decide) rfl (HG.out.alloc _).sl rfl (Blk.new _ _ _) rfl (by simp [Value.oneCell']) (by unfold maxLen; omega) (by omega) ?_)
  intro b' w' hS hg hat
  have HK := Lib.hid (((HG.out.alloc _).append hS hg hat (by simp)).cast (m := n + 1) (ys := xs ++ [bv 3]) (by omega) (by first | (simp; done) | (simp; omega)))
  clear hS hg hat
  go_wp2_with fail
  have e : bits .xor .u64 (IntKind.u64.wrap t) 9223372036854775808 = ((t + 9223372036854775808).toNat : Int) := by
    simp only [Lit.wf, IntKind.min, IntKind.max, IntKind.bits, IntKind.signed] at ht
    simp at ht
    have h1 : IntKind.u64.wrap t = ((t % 18446744073709551616).toNat : Int) := by rw [IntKind.wrap_u64]; omega
    rw [h1, bits_top (by omega)]
    omega
  rw [e]
  clear e
  generalize hm : (t + 9223372036854775808).toNat = m at *
  have hml : m < 18446744073709551616 := by
    simp only [Lit.wf, IntKind.min, IntKind.max, IntKind.bits, IntKind.signed] at ht
    simp at ht
    omega
  refine (high_ok HK.out.sl (by omega) hml).mono ?_
  rintro e w2 ⟨b2, rfl, hg⟩
  have HN := Lib.hid ((HK.out.trans hg).cast (m := n + 9) (ys := xs ++ (bv 3 :: (big8 m).map bv)) (by simp [big8]) (by simp))
  clear hg hm
  go_wp2
  exact bodyPost_ret (results_tmp rfl _ _ _) rfl ⟨b2, rfl, HN.out⟩
set_option maxRecDepth 100000 in
theorem key_number (t : Nat) : KeyOk (.number t) := by
  intro w F u b n xs hu hs hF hn
  obtain ⟨j5, si, sz0, sz1, sz2⟩ := info_parts info5
  cases hu with
  | number _ ht =>
  have hn : n + 9 ≤ 2 ^ 40 := hn
  have HG := Lib.hid (Gr.refl hs)
  clear hs
  show Calls Try.prog 110 _ w (KeyPost w b n xs (4 :: big8 (keyR t)))
  go_enter Try.func110, Try.ntmps110
  go_wp2_with (at_builtin; refine wpList_append_one (news := [_]) rfl (.tmp 5) (.tmp 6) 28 rfl 5 j5 _ 1 1 Try.underlying28 si sz0 sz1 sz2 rfl (by decide) rfl (HG.out.alloc _).sl rfl (Blk.new _ _ _) rfl (by simp [Value.oneCell']) (by unfold maxLen; omega) (by omega) ?_)
  intro b' w' hS hg hat
  have HK := Lib.hid (((HG.out.alloc _).append hS hg hat (by simp)).cast (m := n + 1) (ys := xs ++ [bv 4]) (by omega) (by first | (simp; done) | (simp; omega)))
  clear hS hg hat
  go_wp2_with fail
  refine (realKey _ t ht).mono ?_
  rintro e w1 ⟨rfl, rfl⟩
  go_wp2_with fail
  refine (high_ok HK.out.sl (by omega) (keyR_lt ht)).mono ?_
  rintro e w2 ⟨b2, rfl, hg⟩
  have HN := Lib.hid ((HK.out.trans hg).cast (m := n + 9) (ys := xs ++ (bv 4 :: (big8 (keyR t)).map bv)) (by simp [big8]) (by simp))
  clear hg
  go_wp2
  exact bodyPost_ret (results_tmp rfl _ _ _) rfl ⟨b2, rfl, HN.out⟩
set_option maxRecDepth 100000 in
set_option maxHeartbeats 3200000 in
theorem key_text (t : ByteArray) : KeyOk (.text t) := by
  intro w F u b n xs hu hs hF hn
  obtain ⟨j5, si, sz0, sz1, sz2⟩ := info_parts info5
  cases hu with
  | text _ ht =>
  have hn : n + 9 * (1 + t.size) ≤ 2 ^ 40 := hn
  have htl : t.size ≤ 2 ^ 40 := by omega
  have HG := Lib.hid (Gr.refl hs)
  clear hs
  show Calls Try.prog 120 _ w (KeyPost w b n xs (5 :: (esc t.data.toList ++ [0, 1])))
  go_enter Try.func120, Try.ntmps120
  go_wp2_with (at_builtin; refine wpList_append_one (news := [_]) rfl (.tmp 6) (.tmp 7) 28 rfl 5 j5 _ 1 1 Try.underlying28 si sz0 sz1 sz2 rfl (by decide) rfl (HG.out.alloc _).sl rfl (Blk.new _ _ _) rfl (by simp [Value.oneCell']) (by unfold maxLen; omega) (by omega) ?_)
  intro b' w' hS hg hat
  have HK := Lib.hid (((HG.out.alloc _).append hS hg hat (by simp)).cast (m := n + 1) (ys := xs ++ [bv 5]) (by omega) (by first | (simp; done) | (simp; omega)))
  clear hS hg hat
  go_wp2
  go_loopw [1, 5] (fun v z wr => ∃ k : Nat, k ≤ t.size ∧ z = .int .i64 k ∧ Hid (Gr w wr b v (n + 1 + (esc (t.data.toList.take k)).length) (xs ++ bv 5 :: (esc (t.data.toList.take k)).map bv))) (fun _ z _ => t.size - (intOf z).toNat)
  case atStart => exact ⟨0, by omega, rfl, Lib.hid (by simpa [esc] using HK.out)⟩
  case round =>
    obtain ⟨k, hk, rfl, HR⟩ := hrel
    have hel := esc_len (t.data.toList.take k)
    have hel2 : (t.data.toList.take k).length ≤ k := List.length_take_le _ _
    obtain ⟨va, vc, hv, _, _⟩ := HR.out.sl.shape
    subst hv
    by_cases hkt : k < t.size
    · have hkz : (k : Int) < (t.size : Int) := by omega
      have HE := Lib.hid (show esc (t.data.toList.take (k + 1)) = esc (t.data.toList.take k) ++ (if t[k] = 0 then [0, 255] else [t[k].toNat]) by
        have : t.data.toList.take (k + 1) = t.data.toList.take k ++ [t[k]] := by rw [List.take_succ_eq_append_getElem (by simpa using hkt)]; rfl
        rw [this, esc_append]
        simp [esc])
      generalize esc (t.data.toList.take k) = es at *
      go_wp2_with (at_builtin; refine wpList_append_one (news := [_]) rfl (.tmp 15) (.tmp 19) 28 rfl 5 j5 _ 1 1 Try.underlying28 si sz0 sz1 sz2 rfl (by decide) rfl (HR.out.alloc _).sl rfl (Blk.new _ _ _) rfl (by simp [Value.oneCell']) (by unfold maxLen; omega) (by omega) ?_)
      intro b' w' hS hg hat
      have HN := Lib.hid ((HR.out.alloc _).append hS hg hat (by simp))
      clear hS hg hat HR
      by_cases hz : t[k] = 0
      · have hz1 : ((t[k].toNat : Int) == 0) = true := by rw [hz]; rfl
        obtain ⟨vb, vd, hv, _, _⟩ := HN.out.sl.shape
        subst hv
        go_wp2_with (at_builtin; refine wpList_append_one (news := [bv 255]) rfl (.tmp 25) (.tmp 26) 28 rfl 5 j5 _ 1 1 Try.underlying28 si sz0 sz1 sz2 rfl (by decide) rfl (HN.out.alloc _).sl rfl (Blk.new _ _ _) rfl (by simp [Value.oneCell']) (by unfold maxLen; omega) (by omega) ?_)
        intro b2 w2 hS hg hat
        have HM := Lib.hid (((HN.out.alloc _).append hS hg hat (by simp)).cast (m := n + 1 + (esc (t.data.toList.take (k + 1))).length) (ys := xs ++ bv 5 :: (esc (t.data.toList.take (k + 1))).map bv) (by rw [HE.out, if_pos hz]; simp; omega) (by rw [HE.out, if_pos hz]; simp [hz]))
        clear hS hg hat HN hz
        go_wp2
        go_roundw
        case measure => simp [intOf]; omega
        case rel => exact ⟨k + 1, by omega, by go_num, HM⟩
      · have hz1 : ((t[k].toNat : Int) == 0) = false := by
          rw [beq_eq_false_iff_ne]
          intro h
          exact hz (UInt8.toNat_inj.1 (by rw [show (0 : UInt8).toNat = 0 from rfl]; omega))
        have HM := Lib.hid (HN.out.cast (m := n + 1 + (esc (t.data.toList.take (k + 1))).length) (ys := xs ++ bv 5 :: (esc (t.data.toList.take (k + 1))).map bv) (by rw [HE.out, if_neg hz]; simp; omega) (by rw [HE.out, if_neg hz]; simp))
        clear hz HN
        go_wp2
        go_roundw
        case measure => simp [intOf]; omega
        case rel => exact ⟨k + 1, by omega, by go_num, HM⟩
    · obtain rfl : k = t.size := by omega
      have HT := Lib.hid (show t.data.toList.take t.size = t.data.toList from List.take_of_length_le (by rw [Array.length_toList]; exact Nat.le_refl _))
      go_wp2_with (at_builtin; refine wpList_append_many (m := 2) (news := [bv 0, bv 1]) rfl (.tmp 28) (.tmp 29) 28 rfl 5 j5 _ 1 1 Try.underlying28 si sz0 sz1 sz2 rfl (by decide) rfl (HR.out.alloc _).sl rfl (Blk.new _ _ _) rfl (by simp [Value.oneCell']) (by unfold maxLen; omega) (by omega) ?_)
      intro b2 w2 hS hg hat
      have HM := Lib.hid (((HR.out.alloc _).append hS hg hat (by simp)).cast (m := n + (5 :: (esc t.data.toList ++ [0, 1])).length) (ys := xs ++ (5 :: (esc t.data.toList ++ [0, 1])).map bv) (by rw [HT.out]; simp; omega) (by rw [HT.out]; simp))
      clear hS hg hat HR
      go_wp2
      exact bodyPost_ret (results_tmp rfl _ _ _) rfl ⟨b2, rfl, HM.out⟩
set_option maxRecDepth 100000 in
set_option maxHeartbeats 3200000 in
theorem key_list (l : List I) (H : ∀ j (h : j < l.length), KeyOk l[j]) : KeyOk (.list l) := by
  intro w F u b n xs hu hs hF hn
  obtain ⟨j5, si, sz0, sz1, sz2⟩ := info_parts info5
  cases hu with
  | @list _ a cap us hc hm hcell hi =>
  have HC := Lib.hid hcell
  have HI := Lib.hid hi
  have HH := Lib.hid H
  have HF := Lib.hid hF
  clear hcell hi H hF
  have hlm : l.length ≤ maxLen := by omega
  unfold maxLen at hlm
  have hn : n + 9 * (1 + sizes l) ≤ 2 ^ 40 := hn
  have HG := Lib.hid (Gr.refl hs)
  clear hs
  show Calls Try.prog 128 _ w (KeyPost w b n xs (6 :: (keys l ++ [0])))
  go_enter Try.func128, Try.ntmps128
  go_wp2_with (at_builtin; refine wpList_append_one (news := [_]) rfl (.tmp 7) (.tmp 8) 28 rfl 5 j5 _ 1 1 Try.underlying28 si sz0 sz1 sz2 rfl (by decide) rfl (HG.out.alloc _).sl rfl (Blk.new _ _ _) rfl (by simp [Value.oneCell']) (by unfold maxLen; omega) (by omega) ?_)
  intro b' w' hS hg hat
  have HK := Lib.hid (((HG.out.alloc _).append hS hg hat (by simp)).cast (m := n + 1) (ys := xs ++ [bv 6]) (by omega) (by first | (simp; done) | (simp; omega)))
  clear hS hg hat
  go_wp2
  go_loopw [1, 12] (fun v z wr => ∃ k : Nat, k ≤ l.length ∧ z = .int .i64 k ∧ Hid (Gr w wr b v (n + 1 + (keys (l.take k)).length) (xs ++ bv 6 :: (keys (l.take k)).map bv))) (fun _ z _ => l.length - (intOf z).toNat)
  case atStart => exact ⟨0, by omega, rfl, Lib.hid (by simpa [keys] using HK.out)⟩
  case round =>
    obtain ⟨k, hk, rfl, HR⟩ := hrel
    have hkl := keys_len (l.take k)
    have hss : sizes l = sizes (l.take k) + sizes (l.drop k) := by rw [← sizes_append, List.take_append_drop]
    obtain ⟨va, vc, hv, _, _⟩ := HR.out.sl.shape
    subst hv
    by_cases hkt : k < l.length
    · have hkz : (k : Int) < (l.length : Int) := by omega
      have hsd : sizes (l.drop k) = l[k].size + sizes (l.drop (k + 1)) := by rw [List.drop_eq_getElem_cons hkt]; rfl
      have HE := Lib.hid (show keys (l.take (k + 1)) = keys (l.take k) ++ l[k].key by rw [List.take_succ_eq_append_getElem hkt, keys_append]; simp [keys])
      obtain ⟨g, off, rfl, hg, hFg, hcc⟩ := HC.out (by omega)
      have hgn : g ∉ b.ownBlock.toList := by
        intro hm
        exact HF.out g hFg (by simpa using hm)
      have x0 : wr.cell? ⟨g, off + k, none⟩ = _ := (HR.out.only.cell (p := ⟨g, off + k, none⟩) hg hgn).trans (hcc k hkt)
      have hxk := HR.out.keepI (HI.out k hkt) HF.out
      have HT := Lib.hid (HH.out k hkt wr _ (us k) _ _ _ hxk HR.out.sl (HR.out.apart HF.out) (by omega))
      have hm1 := m_key hxk
      have hm2 := c_key l[k]
      clear hcc HC hgn hg hFg hxk
      generalize keys (l.take k) = es at *
      generalize hlk : l[k] = xk at *
      generalize us k = uk at *
      clear hlk
      go_wp2_with fail
      refine HT.out.mono ?_
      clear HT hm1 hm2
      rintro e w2 ⟨b2, rfl, hg2⟩
      have HM := Lib.hid ((HR.out.trans hg2).cast (m := n + 1 + (keys (l.take (k + 1))).length) (ys := xs ++ bv 6 :: (keys (l.take (k + 1))).map bv) (by rw [HE.out]; simp; omega) (by rw [HE.out]; simp))
      clear hg2 HR HE
      go_wp2
      go_roundw
      case measure => simp [intOf]; omega
      case rel => exact ⟨k + 1, by omega, by go_num, HM⟩
    · obtain rfl : k = l.length := by omega
      have HR2 := Lib.hid (show Gr w wr b (.slice va (n + 1 + (keys l).length) vc) (n + 1 + (keys l).length) (xs ++ bv 6 :: (keys l).map bv) by have := HR.out; rw [List.take_length] at this; exact this)
      go_wp2_with (at_builtin; refine wpList_append_one (news := [bv 0]) rfl (.tmp 20) (.tmp 21) 28 rfl 5 j5 _ 1 1 Try.underlying28 si sz0 sz1 sz2 rfl (by decide) rfl (HR.out.alloc _).sl rfl (Blk.new _ _ _) rfl (by simp [Value.oneCell']) (by unfold maxLen; omega) (by omega) ?_)
      intro b2 w2 hS hg hat
      have HM := Lib.hid (((HR2.out.alloc _).append hS hg hat (by simp)).cast (m := n + (6 :: (keys l ++ [0])).length) (ys := xs ++ (6 :: (keys l ++ [0])).map bv) (by simp; omega) (by simp))
      clear hS hg hat HR
      go_wp2
      exact bodyPost_ret (results_tmp rfl _ _ _) rfl ⟨b2, rfl, HM.out⟩
theorem key_ok (x : I) : KeyOk x := by
  refine I.rec (motive_1 := KeyOk) (motive_2 := fun l => ∀ x ∈ l, KeyOk x) key_void key_truth key_whole key_number key_text ?_ ?_ ?_ x
  · intro l hl
    exact key_list l fun j h => hl _ (List.getElem_mem h)
  · intro x hx; cases hx
  · intro a l ha hl x hx
    rcases List.mem_cons.1 hx with rfl | hx
    · exact ha
    · exact hl x hx
/-- What Key answers. -/
def KeyRes (w : World) (x : Option I) (e : Ending) (w' : World) : Prop := ∃ v, e = .returned (.tuple #[v, iv (match x with | none => 1 | some _ => 0)]) ∧
  Sl w' 5 1 v (match x with | none => 0 | some x => x.key.length) (match x with | none => [] | some x => x.key.map bv) ∧ (∀ g, v.ownBlock = some g → w.heap.size ≤ g) ∧ Only [] w w'
set_option maxRecDepth 100000 in
theorem Key_ok {w : World} {F : Nat → Prop} {v : V} {cs : List Value} (h : VIs w F v cs) : Calls Try.prog 18 #[.agg cs.toArray] w (KeyRes w v.item) := by
  have H := Lib.hid h
  obtain ⟨k, i, r, t, a, n, cap, rfl⟩ := h.five
  clear h
  have HT := Lib.hid (made_ok (H.out.only0 (w' := w.alloc (.cells #[iv k, iv i, fv r, .string t, .slice a n cap] 33)) ((Only.refl _ w).alloc _)))
  have HI := Lib.hid (fun x (hx : v.item = some x) => item_size hx)
  generalize v.item = vi at *
  go_enter Try.func18, Try.ntmps18
  go_wp2_with fail
  refine HT.out.mono ?_
  clear HT
  rintro e w2 ⟨u, rfl, hu, ho⟩
  have HO := Lib.hid (((Only.refl _ w).alloc _).trans ho)
  clear ho
  cases vi with
  | none =>
    obtain rfl : u = .nilIface := hu
    go_wp2
    exact bodyPost_ret (results2 rfl (res_tmp rfl) (res_tmp rfl)) rfl ⟨.slice none 0 0, rfl, Sl.nil _ _ _, (fun g hg => by cases hg), HO.out⟩
  | some x =>
    obtain ⟨u', rfl, hx⟩ := hu
    have HS := Lib.hid (key_ok x w2 _ u' (.slice none 0 0) 0 [] hx (Sl.nil _ _ _) (fun g _ h => by cases h) (by have := HI.out x rfl; omega))
    have hm1 := m_key hx
    have hm2 := c_key x
    clear hx HI
    go_wp2_with fail
    refine HS.out.mono ?_
    clear HS hm1 hm2
    rintro e w3 ⟨b, rfl, hg⟩
    have HG := Lib.hid hg
    clear hg
    go_wp2
    refine bodyPost_ret (results2 rfl (res_tmp rfl) (res_tmp rfl)) rfl ⟨b, rfl, ?_, (fun g hg => ?_), HO.out.trans HG.out.only⟩
    · simpa using HG.out.sl
    · rcases HG.out.own g hg with e | e
      · cases e
      · exact Nat.le_trans HO.out.size e
end Go.Proofs.Ytffdfegelgpniaa
