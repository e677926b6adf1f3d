/-
  The document's reading: fail, eight bytes, a number of a key.
-/
import Derived.Test.YtffdfegelgpniaaZBf
set_option linter.unusedSimpArgs false
set_option linter.unusedVariables false
set_option linter.unusedSimpArgs false
set_option linter.unusedVariables false
namespace Go.Proofs.Ytffdfegelgpniaa
open Go.RowKit Go.Fl

/-- The document's reader in memory, nothing failed yet. -/
structure RG (w : World) (F : Nat → Prop) (r : Nat) (bs : List Nat) (s : Value) (at_ : Nat) (left : Int) : Prop where
  blk : Blk w r 67 #[s, iv at_, iv left, iv 0]
  bytes : BytesV w F bs s
  out : ¬ F r
  le : at_ ≤ bs.length
section
variable {w w' : World} {F F' : Nat → Prop} {r : Nat} {bs : List Nat} {s : Value} {at_ at2 : Nat} {left left2 : Int}
theorem RG.only (h : RG w F r bs s at_ left) (ho : Only [] w w') : RG w' F r bs s at_ left := ⟨h.blk.only ho (by simp), h.bytes.only ho (fun _ _ => by simp), h.out, h.le⟩
theorem RG.put (h : RG w F r bs s at_ left) (hb : Blk w' r 67 #[s, iv at2, iv left2, iv 0]) (ho : Only [r] w w') (hl : at2 ≤ bs.length) : RG w' F r bs s at2 left2 :=
  ⟨hb, h.bytes.only ho (fun g hg hm => h.out (by simp at hm; exact hm ▸ hg)), h.out, hl⟩
theorem RG.far {S : List Nat} (h : RG w F r bs s at_ left) (ho : Only S w w') (hr : r ∉ S) (hF : ∀ g, F g → g ∉ S) : RG w' F r bs s at_ left := ⟨h.blk.only ho hr, h.bytes.only ho hF, h.out, h.le⟩
end
/-- What failing leaves. -/
def Failed (w w' : World) (r : Nat) (s : Value) (p c : Int) : Prop := (∃ left, Blk w' r 67 #[s, iv p, iv left, iv c]) ∧ Only [r] w w'
set_option maxRecDepth 100000 in
theorem fail2_ok {w : World} {r : Nat} {s : Value} {at_ left : Int} (h : Blk w r 67 #[s, iv at_, iv left, iv 0]) (p c : Int) : Calls Try.prog 54 #[.pointer (some ⟨r, 0, none⟩), iv p, iv c] w fun e w' => e = .returned (.agg zeroV.toArray) ∧ Failed w w' r s p c := by
  obtain ⟨hc, hf, hlt⟩ := h.facts
  have x0 := hc 0
  have x1 := hc 1
  have x2 := hc 2
  have x3 := hc 3
  have f1 := hf 1
  have f3 := hf 3
  simp at x0 x1 x2 x3
  have HZ := Lib.hid (show Blk (((w.setCell ⟨r, 1, none⟩ (iv p)).setCell ⟨r, 3, none⟩ (iv c)).alloc (.cells zeroV.toArray 33)) w.heap.size 33 zeroV.toArray by
    have h := Blk.new ((w.setCell ⟨r, 1, none⟩ (iv p)).setCell ⟨r, 3, none⟩ (iv c)) 33 zeroV.toArray
    rw [show ((w.setCell ⟨r, 1, none⟩ (iv p)).setCell ⟨r, 3, none⟩ (iv c)).heap.size = w.heap.size by simp] at h
    exact h)
  have HR := Lib.hid (show Blk (((w.setCell ⟨r, 1, none⟩ (iv p)).setCell ⟨r, 3, none⟩ (iv c)).alloc (.cells zeroV.toArray 33)) r 67 #[s, iv p, iv left, iv c] from ((h.set_ 1 (iv p)).set_ 3 (iv c)).alloc _)
  have HO := Lib.hid (show Only [r] w (((w.setCell ⟨r, 1, none⟩ (iv p)).setCell ⟨r, 3, none⟩ (iv c)).alloc (.cells zeroV.toArray 33)) from (((Only.refl _ _).setCell (.inl (by simp)) _).setCell (.inl (by simp)) _).alloc _)
  clear h hc hf
  go_enter Try.func54, Try.ntmps54
  go_wp2_with (refine wpList_store_blk rfl 33 (.tmp 6) (.tmp 20) rfl zeroV rfl rfl HZ.out (by kernel_rfl) (by simp) (by simp [Value.oneCell']) ?_)
  intro w2 hB hO
  have HB := Lib.hid (show Blk w2 w.heap.size 33 zeroV.toArray from hB)
  have HO2 := Lib.hid hO
  clear hB hO
  go_wp2
  exact bodyPost_ret (results1 rfl (res_blk (cs := zeroV) Try.underlying33 (by kernel_rfl) rfl HB.out)) rfl ⟨rfl, ⟨left, HR.out.only HO2.out (by simp; omega)⟩, HO.out.trans' HO2.out fun i hi => .inr (by simp at hi; omega)⟩
def Eight2 (w : World) (F : Nat → Prop) (r : Nat) (bs : List Nat) (s : Value) (at_ : Nat) (left : Int) (e : Ending) (w' : World) : Prop :=
  if at_ + 8 ≤ bs.length then e = .returned (.tuple #[.int .u64 (num ((bs.drop at_).take 8)), .bool true]) ∧ RG w' F r bs s (at_ + 8) left ∧ Only [r] w w'
  else e = .returned (.tuple #[.int .u64 0, .bool false]) ∧ Failed w w' r s bs.length 2
theorem shl_add {m c : Nat} (hm : m < 72057594037927936) (hc : c < 256) : IntKind.u64.wrap ((m : Int) * 256 + (c : Int)) = ((m * 256 + c : Nat) : Int) := by
  rw [IntKind.wrap_u64]
  omega
set_option maxRecDepth 100000 in
set_option maxHeartbeats 1600000 in
theorem eight2_ok {w : World} {F : Nat → Prop} {r : Nat} {bs : List Nat} {s : Value} {at_ : Nat} {left : Int} (h : RG w F r bs s at_ left) (hbl : bs.length ≤ 2 ^ 40) : Calls Try.prog 56 #[.pointer (some ⟨r, 0, none⟩)] w (Eight2 w F r bs s at_ left) := by
  have H := Lib.hid h
  have HBB := Lib.hid (show ∀ c ∈ bs, c < 256 by obtain ⟨_, _, _, _, _, hb, _⟩ := h.bytes; exact hb)
  have hle := h.le
  obtain ⟨a, cap, hs, hl, hm, hbb, hcell⟩ := h.bytes
  subst hs
  obtain ⟨hc, hf, hlt⟩ := h.blk.facts
  have x0 := hc 0
  have x1 := hc 1
  have f1 := hf 1
  simp at x0 x1
  have HC := Lib.hid hcell
  clear h hc hf hcell hbb
  unfold Eight2
  by_cases h8 : at_ + 8 ≤ bs.length
  · simp only [if_pos h8]
    have h8z : ¬ ((bs.length : Int) - (at_ : Int) < 8) := by omega
    obtain ⟨g, off, rfl, hg, hF, hcc⟩ := HC.out (by omega)
    have hgr : g ≠ r := fun e => H.out.out (e ▸ hF)
    have HCC := Lib.hid hcc
    clear hcc HC
    go_enter Try.func56, Try.ntmps56
    go_wp2
    refine Lex.wp_region_text (by kernel_rfl) (by kernel_rfl) ?_
    go_wp2
    refine Lex.sq_done (by rfl) ?_
    go_wp2
    go_loopw [4, 5] (fun n z wr => ∃ k : Nat, k ≤ 8 ∧ z = .int .i64 k ∧ n = .int .u64 (num ((bs.drop at_).take k)) ∧ Hid (Only [] w wr)) (fun _ z _ => 8 - (intOf z).toNat)
    case atStart => exact ⟨0, by omega, rfl, rfl, Lib.hid (by (repeat (first | with_reducible exact Only.refl _ _ | with_reducible exact Only.refl _ _ | with_reducible refine Only.drew ?_ | with_reducible refine Only.drewN ?_ _ | with_reducible refine Only.alloc ?_ _ | ((with_reducible refine Only.setCell ?_ ?_ _); rotate_left; (focus (first | (left; simp; done) | (right; simp; done) | (right; simp; omega) | (right; omega)))))))⟩
    case round =>
      obtain ⟨k, hk, rfl, rfl, HO⟩ := hrel
      have hlt2 := num_lt _ ((bs.drop at_).take k) rfl fun c hc => HBB.out c (List.mem_of_mem_drop (List.mem_of_mem_take hc))
      have hlen : ((bs.drop at_).take k).length = k := by simp; omega
      rw [hlen] at hlt2
      have HRr := Lib.hid (H.out.only HO.out)
      obtain ⟨hc, hf, hlt⟩ := HRr.out.blk.facts
      have x0 := hc 0
      have x1 := hc 1
      have f1 := hf 1
      simp at x0 x1
      by_cases hk8 : k < 8
      · have h8z : (k : Int) < 8 := by omega
        have hnum : num ((bs.drop at_).take k) < 72057594037927936 := Nat.lt_of_lt_of_le hlt2 (by
          have : 256 ^ k ≤ 256 ^ 7 := Nat.pow_le_pow_right (by omega) (by omega)
          exact this)
        have HE := Lib.hid (show num ((bs.drop at_).take (k + 1)) = num ((bs.drop at_).take k) * 256 + bs[at_ + k] by
          rw [List.take_succ_eq_append_getElem (by simp; omega), num_snoc]; simp)
        have hb := HBB.out bs[at_ + k] (List.getElem_mem (by omega))
        have y0 := (HO.out.cell (p := ⟨g, off + (at_ + k), none⟩) hg (by simp)).trans (HCC.out (at_ + k) (by omega))
        generalize num ((bs.drop at_).take k) = m at *
        generalize bs[at_ + k] = c at *
        have hsh := shl_add hnum hb
        clear hlt2 hlen hc hf
        go_wp2
        refine Lex.wp_region_text (by kernel_rfl) (by kernel_rfl) ?_
        go_wp2
        refine Lex.sq_done (by rfl) ?_
        go_wp2
        go_roundw
        case measure => simp [intOf]; omega
        case rel => exact ⟨k + 1, by omega, by go_num, by rw [HE.out]; go_num, Lib.hid HO.out.drew⟩
      · obtain rfl : k = 8 := by omega
        clear hlt2 hlen hc hf
        have HB := Lib.hid (show Blk (wr.setCell ⟨r, 1, none⟩ (.int .i64 (at_ + 8))) r 67 #[.slice (some ⟨g, off, none⟩) bs.length cap, iv (at_ + 8 : Nat), iv left, iv 0] from HRr.out.blk.set_ 1 _)
        have HO2 := Lib.hid (show Only [r] w (wr.setCell ⟨r, 1, none⟩ (.int .i64 (at_ + 8))) from (HO.out.mono (by simp)).setCell (.inl (by simp)) _)
        go_wp2
        exact bodyPost_ret (results2 rfl (res_tmp rfl) (res_tmp rfl)) rfl ⟨rfl, H.out.put HB.out HO2.out h8, HO2.out⟩
  · simp only [if_neg h8]
    have h8z : (bs.length : Int) - (at_ : Int) < 8 := by omega
    have HQ := Lib.hid (fun w2 (ho : Only [] w w2) => fail2_ok (H.out.blk.only ho (by simp)) bs.length 2)
    go_enter Try.func56, Try.ntmps56
    go_wp2
    refine Lex.wp_region_text (by kernel_rfl) (by kernel_rfl) ?_
    go_wp2
    refine Lex.sq_done (by rfl) ?_
    go_wp2_with fail
    refine (HQ.out w.drew (Only.refl _ _).drew).mono ?_
    rintro e w2 ⟨rfl, hf, ho⟩
    go_wp2
    exact bodyPost_ret (results2 rfl (res_tmp rfl) (res_tmp rfl)) rfl ⟨rfl, hf, (Only.refl [r] w).drew.trans ho⟩
set_option maxRecDepth 100000 in
theorem unkey2_ok (w : World) (k : Nat) (hk : k < 18446744073709551616) : Calls Try.prog 57 #[.int .u64 k] w fun e w' => e = .returned (unkeyV (unkeyR k)) ∧ w' = w := by
  have e := e70
  unfold unkeyR
  by_cases h0 : k = 18446744073709551615
  · rw [if_pos h0]
    subst h0
    go_enter Try.func57, Try.ntmps57
    go_wp2
    exact bodyPost_ret (v := unkeyV (some 9221120237041090561)) (results2 rfl (res_tmp rfl) (res_tmp rfl)) rfl ⟨rfl, rfl⟩
  · rw [if_neg h0]
    have h0z : ((k : Int) == 18446744073709551615) = false := by rw [beq_eq_false_iff_ne]; omega
    by_cases h1 : 18442240474082181120 < k
    · rw [if_pos (.inl h1)]
      have h1z : (18442240474082181120 : Int) < (k : Int) := by omega
      go_enter Try.func57, Try.ntmps57
      go_wp2
      exact bodyPost_ret (v := unkeyV none) (results2 rfl (res_tmp rfl) (res_tmp rfl)) rfl ⟨rfl, rfl⟩
    · have h1z : ¬ (18442240474082181120 : Int) < (k : Int) := by omega
      by_cases h2 : k < 4503599627370495
      · rw [if_pos (.inr h2)]
        have h2z : (k : Int) < 4503599627370495 := by omega
        go_enter Try.func57, Try.ntmps57
        go_wp2
        exact bodyPost_ret (v := unkeyV none) (results2 rfl (res_tmp rfl) (res_tmp rfl)) rfl ⟨rfl, rfl⟩
      · rw [if_neg (by omega)]
        have h2z : ¬ (k : Int) < 4503599627370495 := by omega
        by_cases h3 : 9223372036854775808 ≤ k
        · rw [if_pos h3]
          have h3z : (9223372036854775808 : Int) ≤ (k : Int) := by omega
          go_enter Try.func57, Try.ntmps57
          go_wp2
          exact bodyPost_ret (v := unkeyV (some (k - 9223372036854775808))) (results2 rfl (res_tmp rfl) (res_tmp rfl)) rfl ⟨rfl, rfl⟩
        · rw [if_neg h3]
          have h3z : ¬ (9223372036854775808 : Int) ≤ (k : Int) := by omega
          have b0 := bits_not hk
          obtain ⟨c, hc⟩ : ∃ c, c = 18446744073709551615 - k := ⟨_, rfl⟩
          rw [← hc] at b0 ⊢
          have B0 := Lib.hid b0
          clear b0 hc hk h0 h1 h2 h3
          go_enter Try.func57, Try.ntmps57
          go_wp2_with (rw [show (bits .xor .u64 (if IntKind.u64.signed = true then -1 else IntKind.u64.max) (k : Int)) = (c : Int) from B0.out])
          exact bodyPost_ret (v := unkeyV (some c)) (results2 rfl (res_tmp rfl) (res_tmp rfl)) rfl ⟨rfl, rfl⟩
end Go.Proofs.Ytffdfegelgpniaa
