/-
  Reading a value whose first byte has been taken: numbers, texts; a list's first byte.
-/
import Derived.Test.YtffdfegelgpniaaMe
set_option linter.unusedSimpArgs false
set_option linter.unusedVariables false
set_option linter.unusedSimpArgs false
set_option linter.unusedVariables false
namespace Go.Proofs.Ytffdfegelgpniaa
open Go.RowKit Go.Fl

theorem num8_lt {bs : List Nat} {at_ : Nat} (h : ∀ c ∈ bs, c < 256) : num ((bs.drop at_).take 8) < 18446744073709551616 := by
  have h1 := num_lt _ ((bs.drop at_).take 8) rfl fun c hc => h c (List.mem_of_mem_drop (List.mem_of_mem_take hc))
  refine Nat.lt_of_lt_of_le h1 ?_
  exact Nat.pow_le_pow_right (n := 256) (by omega) (List.length_take_le _ _)
theorem unkey_lt {k b : Nat} (hk : k < 18446744073709551616) (h : unkeyR k = some b) : b < 18446744073709551616 := by
  unfold unkeyR at h
  split at h
  · injection h; omega
  · split at h
    · cases h
    · split at h
      · injection h; omega
      · injection h; omega
set_option maxRecDepth 100000 in
set_option maxHeartbeats 3200000 in
theorem val_three (n : Nat) : ∀ (w : World) (F : Nat → Prop) (r : Nat) (bs : List Nat) (s : Value) (first nest at_ : Nat) (room : Int), PS w F r bs s at_ room → 0 ≤ room → room ≤ 65536 → bs.length ≤ 2 ^ 40 → nest ≤ 8 → first = 3 → 2 * (bs.length - at_) + 2 ≤ n →
    Calls Try.prog 36 #[.pointer (some ⟨r, 0, none⟩), .int .u8 first, iv nest] w (ValPost w F r bs s (pval n bs first nest at_ room)) := by
  intro w F r bs s first nest at_ room h h0 h1 hbl hn hf hfu
  obtain ⟨n, rfl⟩ : ∃ m, n = m + 1 := ⟨n - 1, by omega⟩
  have hFr := h.out
  have hst := h.strict
  have HBB := Lib.hid (show ∀ c ∈ bs, c < 256 by obtain ⟨_, _, _, _, _, hb, _⟩ := h.bytes; exact hb)
  have hrl := h.blk.lt
  have hle := h.le
  clear h
  obtain ⟨G, hG⟩ : ∃ G : Nat → Prop, G = fun g => F g ∧ g < w.heap.size := ⟨_, rfl⟩
  rw [← hG] at hst
  have HG := Lib.hid (show ∀ g, G g → F g ∧ g < w.heap.size by rw [hG]; exact fun _ h => h)
  have HGF := Lib.hid (show ∀ (w' : World) (q : Nat) (rm : Int), PS w' G r bs s q rm → PS w' F r bs s q rm from fun _ _ _ h => h.mono (fun g hg => (HG.out g hg).1) hFr)
  have H := Lib.hid hst
  clear hst hG
  obtain ⟨w0, hw0⟩ : ∃ x : World, x = w.alloc (.cells zeroV.toArray 33) := ⟨_, rfl⟩
  have HW0 := Lib.hid hw0
  have HB0 := Lib.hid (show Blk w0 w.heap.size 33 zeroV.toArray by rw [hw0]; exact Blk.new _ _ _)
  have HO0 := Lib.hid (show Only [] w w0 by rw [hw0]; exact (Only.refl _ w).alloc _)
  have HO1 := Lib.hid (HO0.out.mono (T := [r]) (by simp))
  have HP0 := Lib.hid (H.out.only HO0.out)
  have x1 := H.out.blk.cell 1
  simp at x1
  clear hw0
  subst hf
  have HC := Lib.hid (count_ok HP0.out 1 (at_ - 1) h0 h1 (by omega) (by omega))
  go_enter Try.func36, Try.ntmps36
  go_wp2_with fail
  rw [← HW0.out]
  refine HC.out.mono ?_
  clear HC
  intro e w1 hc
  unfold CountPost at hc
  by_cases hrm : room - 1 < 0
  · rw [if_pos hrm] at hc
    obtain ⟨rfl, ho⟩ := hc
    have HO := Lib.hid (HO1.out.trans ho)
    have HF := Lib.hid (show pval (n + 1) bs 3 nest at_ room = .bad (at_ - 1) 3 by unfold pval; rw [if_neg (by omega), if_pos (by omega)])
    clear ho
    go_wp2
    refine ⟨rfl, ?_⟩
    rw [HF.out]
    exact ⟨rfl, HO.out⟩
  rw [if_neg hrm] at hc
  obtain ⟨rfl, hps, ho⟩ := hc
  have HP := Lib.hid hps
  have HO := Lib.hid (HO1.out.trans ho)
  have HB := Lib.hid (HB0.out.only ho (by simp; omega))
  clear hps ho x1 HP0 HB0 HO0 HO1
  have HE := Lib.hid (eight_ok HP.out)
  go_wp2_with fail
  refine HE.out.mono ?_
  clear HE
  intro e w2 hn
  unfold EightPost at hn
  by_cases hk : at_ + 8 ≤ bs.length
  case neg =>
    rw [if_neg hk] at hn
    obtain ⟨rfl, ho⟩ := hn
    have HF := Lib.hid (show pval (n + 1) bs 3 nest at_ room = .bad bs.length 2 by unfold pval; rw [if_neg (by omega), if_neg (by omega)]; simp only [if_neg hk]; simp)
    have HO2 := Lib.hid (HO.out.trans ho)
    clear ho
    go_wp2
    refine ⟨rfl, ?_⟩
    rw [HF.out]
    exact ⟨rfl, HO2.out⟩
  rw [if_pos hk] at hn
  obtain ⟨rfl, hps, ho⟩ := hn
  have HP2 := Lib.hid hps
  have HO3 := Lib.hid (HO.out.trans ho)
  have HB3 := Lib.hid (HB.out.only ho (by simp; omega))
  clear hps ho HP HO HB
  have HP := HP2
  have HO := HO3
  have HB := HB3
  have hm := num8_lt (at_ := at_) HBB.out
  clear HP2 HO3 HB3
  have HF := Lib.hid (show pval (n + 1) bs 3 nest at_ room = .ok (.mk 3 (num ((bs.drop at_).take 8) - 9223372036854775808) 0 ⟨#[]⟩ []) (at_ + 8) (room - 1) by unfold pval; rw [if_neg (by omega), if_neg (by omega), if_neg (by omega), if_neg (by omega), if_pos rfl, if_pos hk])
  generalize num ((bs.drop at_).take 8) = m at *
  have hx := bits_top hm
  go_wp2_with (refine wpList_store_blk rfl 33 (.tmp 6) (.tmp 62) rfl [iv 3, _, fv 0, .string ⟨#[]⟩, .slice none 0 0] rfl rfl HB.out (by kernel_rfl) (by simp) (by simp [Value.oneCell']) ?_)
  intro w3 hB2 hO2
  have hwr : wrap64 (((m : Int) + 9223372036854775808) % 18446744073709551616) = (m : Int) - 9223372036854775808 := by
    unfold wrap64
    omega
  rw [hwr] at hB2 ⊢
  have HB2 := Lib.hid hB2
  have HO2 := Lib.hid hO2
  have HWF := Lib.hid (show (Lit.int .i64 ((m : Int) - 9223372036854775808)).wf = true by rw [← hwr]; exact wrap64_wf _)
  clear hB2 hO2 hwr hx
  go_wp2
  refine bodyPost_ret (results1 rfl (res_blk (cs := [iv 3, iv ((m : Int) - 9223372036854775808), fv 0, .string ⟨#[]⟩, .slice none 0 0]) Try.underlying33 (by kernel_rfl) rfl HB2.out)) rfl ?_
  rw [HF.out]
  exact ⟨[iv 3, iv ((m : Int) - 9223372036854775808), fv 0, .string ⟨#[]⟩, .slice none 0 0], [], rfl, VO.plain (by decide) HWF.out (by omega) (Nat.zero_le _), List.nodup_nil, (fun g hg => by cases hg), HGF.out _ _ _ (HP.out.far HO2.out (by omega) (fun g hg => by have := (HG.out g hg).2; omega)), HO.out.trans' HO2.out (fun i hi => .inr (by simp at hi; omega))⟩
set_option maxRecDepth 100000 in
set_option maxHeartbeats 3200000 in
theorem val_four (n : Nat) : ∀ (w : World) (F : Nat → Prop) (r : Nat) (bs : List Nat) (s : Value) (first nest at_ : Nat) (room : Int), PS w F r bs s at_ room → 0 ≤ room → room ≤ 65536 → bs.length ≤ 2 ^ 40 → nest ≤ 8 → first = 4 → 2 * (bs.length - at_) + 2 ≤ n →
    Calls Try.prog 36 #[.pointer (some ⟨r, 0, none⟩), .int .u8 first, iv nest] w (ValPost w F r bs s (pval n bs first nest at_ room)) := by
  intro w F r bs s first nest at_ room h h0 h1 hbl hn hf hfu
  obtain ⟨n, rfl⟩ : ∃ m, n = m + 1 := ⟨n - 1, by omega⟩
  have hFr := h.out
  have hst := h.strict
  have HBB := Lib.hid (show ∀ c ∈ bs, c < 256 by obtain ⟨_, _, _, _, _, hb, _⟩ := h.bytes; exact hb)
  have hrl := h.blk.lt
  have hle := h.le
  clear h
  obtain ⟨G, hG⟩ : ∃ G : Nat → Prop, G = fun g => F g ∧ g < w.heap.size := ⟨_, rfl⟩
  rw [← hG] at hst
  have HG := Lib.hid (show ∀ g, G g → F g ∧ g < w.heap.size by rw [hG]; exact fun _ h => h)
  have HGF := Lib.hid (show ∀ (w' : World) (q : Nat) (rm : Int), PS w' G r bs s q rm → PS w' F r bs s q rm from fun _ _ _ h => h.mono (fun g hg => (HG.out g hg).1) hFr)
  have H := Lib.hid hst
  clear hst hG
  obtain ⟨w0, hw0⟩ : ∃ x : World, x = w.alloc (.cells zeroV.toArray 33) := ⟨_, rfl⟩
  have HW0 := Lib.hid hw0
  have HB0 := Lib.hid (show Blk w0 w.heap.size 33 zeroV.toArray by rw [hw0]; exact Blk.new _ _ _)
  have HO0 := Lib.hid (show Only [] w w0 by rw [hw0]; exact (Only.refl _ w).alloc _)
  have HO1 := Lib.hid (HO0.out.mono (T := [r]) (by simp))
  have HP0 := Lib.hid (H.out.only HO0.out)
  have x1 := H.out.blk.cell 1
  simp at x1
  clear hw0
  subst hf
  have HC := Lib.hid (count_ok HP0.out 1 (at_ - 1) h0 h1 (by omega) (by omega))
  go_enter Try.func36, Try.ntmps36
  go_wp2_with fail
  rw [← HW0.out]
  refine HC.out.mono ?_
  clear HC
  intro e w1 hc
  unfold CountPost at hc
  by_cases hrm : room - 1 < 0
  · rw [if_pos hrm] at hc
    obtain ⟨rfl, ho⟩ := hc
    have HO := Lib.hid (HO1.out.trans ho)
    have HF := Lib.hid (show pval (n + 1) bs 4 nest at_ room = .bad (at_ - 1) 3 by unfold pval; rw [if_neg (by omega), if_pos (by omega)])
    clear ho
    go_wp2
    refine ⟨rfl, ?_⟩
    rw [HF.out]
    exact ⟨rfl, HO.out⟩
  rw [if_neg hrm] at hc
  obtain ⟨rfl, hps, ho⟩ := hc
  have HP := Lib.hid hps
  have HO := Lib.hid (HO1.out.trans ho)
  have HB := Lib.hid (HB0.out.only ho (by simp; omega))
  clear hps ho x1 HP0 HB0 HO0 HO1
  have HE := Lib.hid (eight_ok HP.out)
  go_wp2_with fail
  refine HE.out.mono ?_
  clear HE
  intro e w2 hn
  unfold EightPost at hn
  by_cases hk : at_ + 8 ≤ bs.length
  case neg =>
    rw [if_neg hk] at hn
    obtain ⟨rfl, ho⟩ := hn
    have HF := Lib.hid (show pval (n + 1) bs 4 nest at_ room = .bad bs.length 2 by unfold pval; rw [if_neg (by omega), if_neg (by omega)]; simp only [if_neg hk]; simp)
    have HO2 := Lib.hid (HO.out.trans ho)
    clear ho
    go_wp2
    refine ⟨rfl, ?_⟩
    rw [HF.out]
    exact ⟨rfl, HO2.out⟩
  rw [if_pos hk] at hn
  obtain ⟨rfl, hps, ho⟩ := hn
  have HP2 := Lib.hid hps
  have HO3 := Lib.hid (HO.out.trans ho)
  have HB3 := Lib.hid (HB.out.only ho (by simp; omega))
  clear hps ho HP HO HB
  have HP := HP2
  have HO := HO3
  have HB := HB3
  have hm := num8_lt (at_ := at_) HBB.out
  clear HP2 HO3 HB3
  have HF0 := Lib.hid (show pval (n + 1) bs 4 nest at_ room = (match unkeyR (num ((bs.drop at_).take 8)) with | none => .bad at_ 4 | some b => .ok (.mk 4 0 b ⟨#[]⟩ []) (at_ + 8) (room - 1)) by unfold pval; rw [if_neg (by omega), if_neg (by omega), if_neg (by omega), if_neg (by omega), if_neg (by omega), if_pos rfl, if_pos hk]; first | rfl | (split <;> rfl))
  generalize num ((bs.drop at_).take 8) = m at *
  go_wp2_with fail
  refine (realUnkey _ m hm).mono ?_
  rintro e w3 ⟨rfl, rfl⟩
  cases hu : unkeyR m with
  | none =>
    rw [hu] at HF0
    clear hu
    unfold unkeyV
    go_wp2_with fail
    refine (fail_ok _ _ _).mono ?_
    rintro e w4 ⟨rfl, rfl⟩
    go_wp2
    refine ⟨rfl, ?_⟩
    rw [HF0.out]
    refine ⟨?_, HO.out⟩
    exact congrArg (fun z => Ending.panicked [{ v := wrongV z 4, recovered := false }]) (by omega)
  | some b =>
    rw [hu] at HF0
    have hbl2 := unkey_lt hm hu
    have HF := HF0
    clear hu
    unfold unkeyV
    go_wp2_with (refine wpList_store_blk rfl 33 (.tmp 6) (.tmp 77) rfl [iv 4, iv 0, fv b, .string ⟨#[]⟩, .slice none 0 0] rfl rfl HB.out (by kernel_rfl) (by simp) (by simp [Value.oneCell']) ?_)
    intro w2 hB2 hO2
    have HB2 := Lib.hid hB2
    have HO2 := Lib.hid hO2
    clear hB2 hO2
    go_wp2
    refine bodyPost_ret (results1 rfl (res_blk (cs := [iv 4, iv 0, fv b, .string ⟨#[]⟩, .slice none 0 0]) Try.underlying33 (by kernel_rfl) rfl HB2.out)) rfl ?_
    rw [HF.out]
    exact ⟨[iv 4, iv 0, fv b, .string ⟨#[]⟩, .slice none 0 0], [], rfl, VO.plain (by decide) (by decide) hbl2 (Nat.zero_le _), List.nodup_nil, (fun g hg => by cases hg), HGF.out _ _ _ (HP.out.far HO2.out (by omega) (fun g hg => by have := (HG.out g hg).2; omega)), HO.out.trans' HO2.out (fun i hi => .inr (by simp at hi; omega))⟩
set_option maxRecDepth 100000 in
set_option maxHeartbeats 3200000 in
theorem val_five (n : Nat) : ∀ (w : World) (F : Nat → Prop) (r : Nat) (bs : List Nat) (s : Value) (first nest at_ : Nat) (room : Int), PS w F r bs s at_ room → 0 ≤ room → room ≤ 65536 → bs.length ≤ 2 ^ 40 → nest ≤ 8 → first = 5 → 2 * (bs.length - at_) + 2 ≤ n →
    Calls Try.prog 36 #[.pointer (some ⟨r, 0, none⟩), .int .u8 first, iv nest] w (ValPost w F r bs s (pval n bs first nest at_ room)) := by
  intro w F r bs s first nest at_ room h h0 h1 hbl hn hf hfu
  obtain ⟨n, rfl⟩ : ∃ m, n = m + 1 := ⟨n - 1, by omega⟩
  have hFr := h.out
  have hst := h.strict
  have HBB := Lib.hid (show ∀ c ∈ bs, c < 256 by obtain ⟨_, _, _, _, _, hb, _⟩ := h.bytes; exact hb)
  have hrl := h.blk.lt
  have hle := h.le
  clear h
  obtain ⟨G, hG⟩ : ∃ G : Nat → Prop, G = fun g => F g ∧ g < w.heap.size := ⟨_, rfl⟩
  rw [← hG] at hst
  have HG := Lib.hid (show ∀ g, G g → F g ∧ g < w.heap.size by rw [hG]; exact fun _ h => h)
  have HGF := Lib.hid (show ∀ (w' : World) (q : Nat) (rm : Int), PS w' G r bs s q rm → PS w' F r bs s q rm from fun _ _ _ h => h.mono (fun g hg => (HG.out g hg).1) hFr)
  have H := Lib.hid hst
  clear hst hG
  obtain ⟨w0, hw0⟩ : ∃ x : World, x = w.alloc (.cells zeroV.toArray 33) := ⟨_, rfl⟩
  have HW0 := Lib.hid hw0
  have HB0 := Lib.hid (show Blk w0 w.heap.size 33 zeroV.toArray by rw [hw0]; exact Blk.new _ _ _)
  have HO0 := Lib.hid (show Only [] w w0 by rw [hw0]; exact (Only.refl _ w).alloc _)
  have HO1 := Lib.hid (HO0.out.mono (T := [r]) (by simp))
  have HP0 := Lib.hid (H.out.only HO0.out)
  have x1 := H.out.blk.cell 1
  simp at x1
  clear hw0
  subst hf
  have HC := Lib.hid (text_ok HP0.out (at_ - 1) h0 h1 hbl)
  go_enter Try.func36, Try.ntmps36
  go_wp2_with fail
  rw [← HW0.out]
  refine HC.out.mono ?_
  clear HC
  intro e w1 hc
  have HF0 := Lib.hid (show pval (n + 1) bs 5 nest at_ room = (match ptext (bs.drop at_) at_ [] with | .short => .bad bs.length 2 | .form q => .bad q 4 | .done t q => if room - (1 + (t.length : Int)) < 0 then .bad (at_ - 1) 3 else .ok (.mk 5 0 0 (strB t) []) q (room - (1 + (t.length : Int)))) by unfold pval; rw [if_neg (by omega), if_neg (by omega), if_neg (by omega), if_neg (by omega), if_neg (by omega), if_neg (by omega), if_pos rfl]; first | rfl | (split <;> rfl))
  unfold TextPost at hc
  cases hpt : ptext (bs.drop at_) at_ [] with
  | short =>
    rw [hpt] at hc HF0
    obtain ⟨rfl, ho⟩ := hc
    have HO := Lib.hid (HO1.out.trans ho)
    clear ho hpt
    go_wp2
    refine ⟨rfl, ?_⟩
    rw [HF0.out]
    exact ⟨rfl, HO.out⟩
  | form q =>
    rw [hpt] at hc HF0
    obtain ⟨rfl, ho⟩ := hc
    have HO := Lib.hid (HO1.out.trans ho)
    clear ho hpt
    go_wp2
    refine ⟨rfl, ?_⟩
    rw [HF0.out]
    exact ⟨rfl, HO.out⟩
  | done t q =>
    rw [hpt] at hc HF0
    clear hpt
    by_cases hrm : room - (1 + (t.length : Int)) < 0
    · have hc : e = .panicked [{ v := wrongV (at_ - 1) 3, recovered := false }] ∧ Only [r] w0 w1 := by
        have := hc
        simp only [if_pos hrm] at this
        exact this
      have HF := Lib.hid (HF0.out.trans (show (if room - (1 + (t.length : Int)) < 0 then PR.bad (at_ - 1) 3 else .ok (.mk 5 0 0 (strB t) []) q (room - (1 + (t.length : Int)))) = PR.bad (at_ - 1) 3 from if_pos hrm))
      obtain ⟨rfl, ho⟩ := hc
      have HO := Lib.hid (HO1.out.trans ho)
      clear ho HF0
      go_wp2
      refine ⟨rfl, ?_⟩
      rw [HF.out]
      exact ⟨rfl, HO.out⟩
    · have hc : e = .returned (cellsOfText t) ∧ PS w1 G r bs s q (room - (1 + (t.length : Int))) ∧ Only [r] w0 w1 := by
        have := hc
        simp only [if_neg hrm] at this
        exact this
      have HF := Lib.hid (HF0.out.trans (show (if room - (1 + (t.length : Int)) < 0 then PR.bad (at_ - 1) 3 else .ok (.mk 5 0 0 (strB t) []) q (room - (1 + (t.length : Int)))) = .ok (.mk 5 0 0 (strB t) []) q (room - (1 + (t.length : Int))) from if_neg hrm))
      obtain ⟨rfl, hps, ho⟩ := hc
      have HP := Lib.hid hps
      have HO := Lib.hid (HO1.out.trans ho)
      have HB := Lib.hid (HB0.out.only ho (by simp; omega))
      have hts : (strB t).size ≤ maxLen := by
        have : (strB t).size = t.length := by simp [strB, ByteArray.size]
        rw [this]
        unfold maxLen
        omega
      have HTS := Lib.hid hts
      unfold cellsOfText
      clear hps ho HF0 x1 HP0 HB0 HO0 HO1 hts hrm
      generalize strB t = tb at *
      go_wp2_with (refine wpList_store_blk rfl 33 (.tmp 6) (.tmp 82) rfl [iv 5, iv 0, fv 0, .string tb, .slice none 0 0] rfl rfl HB.out (by kernel_rfl) (by simp) (by simp [Value.oneCell']) ?_)
      intro w2 hB2 hO2
      have HB2 := Lib.hid hB2
      have HO2 := Lib.hid hO2
      clear hB2 hO2
      go_wp2
      refine bodyPost_ret (results1 rfl (res_blk (cs := [iv 5, iv 0, fv 0, .string tb, .slice none 0 0]) Try.underlying33 (by kernel_rfl) rfl HB2.out)) rfl ?_
      rw [HF.out]
      exact ⟨[iv 5, iv 0, fv 0, .string tb, .slice none 0 0], [], rfl, VO.plain (by decide) (by decide) (by omega) HTS.out, List.nodup_nil, (fun g hg => by cases hg), HGF.out _ _ _ (HP.out.far HO2.out (by omega) (fun g hg => by have := (HG.out g hg).2; omega)), HO.out.trans' HO2.out (fun i hi => .inr (by simp at hi; omega))⟩
set_option maxRecDepth 100000 in
set_option maxHeartbeats 3200000 in
theorem val_six (n : Nat) (HL : ∀ m, m < n → LstOk m) : ∀ (w : World) (F : Nat → Prop) (r : Nat) (bs : List Nat) (s : Value) (first nest at_ : Nat) (room : Int), PS w F r bs s at_ room → 0 ≤ room → room ≤ 65536 → bs.length ≤ 2 ^ 40 → nest ≤ 8 → first = 6 → 2 * (bs.length - at_) + 2 ≤ n →
    Calls Try.prog 36 #[.pointer (some ⟨r, 0, none⟩), .int .u8 first, iv nest] w (ValPost w F r bs s (pval n bs first nest at_ room)) := by
  intro w F r bs s first nest at_ room h h0 h1 hbl hn hf hfu
  obtain ⟨n, rfl⟩ : ∃ m, n = m + 1 := ⟨n - 1, by omega⟩
  have hFr := h.out
  have hst := h.strict
  have HBB := Lib.hid (show ∀ c ∈ bs, c < 256 by obtain ⟨_, _, _, _, _, hb, _⟩ := h.bytes; exact hb)
  have hrl := h.blk.lt
  have hle := h.le
  clear h
  obtain ⟨G, hG⟩ : ∃ G : Nat → Prop, G = fun g => F g ∧ g < w.heap.size := ⟨_, rfl⟩
  rw [← hG] at hst
  have HG := Lib.hid (show ∀ g, G g → F g ∧ g < w.heap.size by rw [hG]; exact fun _ h => h)
  have HGF := Lib.hid (show ∀ (w' : World) (q : Nat) (rm : Int), PS w' G r bs s q rm → PS w' F r bs s q rm from fun _ _ _ h => h.mono (fun g hg => (HG.out g hg).1) hFr)
  have H := Lib.hid hst
  clear hst hG
  obtain ⟨w0, hw0⟩ : ∃ x : World, x = w.alloc (.cells zeroV.toArray 33) := ⟨_, rfl⟩
  have HW0 := Lib.hid hw0
  have HB0 := Lib.hid (show Blk w0 w.heap.size 33 zeroV.toArray by rw [hw0]; exact Blk.new _ _ _)
  have HO0 := Lib.hid (show Only [] w w0 by rw [hw0]; exact (Only.refl _ w).alloc _)
  have HO1 := Lib.hid (HO0.out.mono (T := [r]) (by simp))
  have HP0 := Lib.hid (H.out.only HO0.out)
  have x1 := H.out.blk.cell 1
  simp at x1
  clear hw0
  subst hf
  by_cases h8 : nest = 8
  · subst h8
    have HF := Lib.hid (show pval (n + 1) bs 6 8 at_ room = .bad (at_ - 1) 3 by unfold pval; rw [if_pos ⟨rfl, rfl⟩])
    go_enter Try.func36, Try.ntmps36
    go_wp2_with fail
    refine (fail_ok _ _ _).mono ?_
    rintro e w3 ⟨rfl, rfl⟩
    rw [← HW0.out]
    go_wp2
    refine ⟨rfl, ?_⟩
    rw [HF.out]
    exact ⟨rfl, HO1.out⟩
  have h8z : ((nest : Int) == 8) = false := by rw [beq_eq_false_iff_ne]; omega
  have HC := Lib.hid (count_ok HP0.out 1 (at_ - 1) h0 h1 (by omega) (by omega))
  go_enter Try.func36, Try.ntmps36
  go_wp2_with fail
  rw [← HW0.out]
  refine HC.out.mono ?_
  clear HC
  intro e w1 hc
  unfold CountPost at hc
  by_cases hrm : room - 1 < 0
  · rw [if_pos hrm] at hc
    obtain ⟨rfl, ho⟩ := hc
    have HO := Lib.hid (HO1.out.trans ho)
    have HF := Lib.hid (show pval (n + 1) bs 6 nest at_ room = .bad (at_ - 1) 3 by unfold pval; rw [if_neg (by omega), if_pos (by omega)])
    clear ho
    go_wp2
    refine ⟨rfl, ?_⟩
    rw [HF.out]
    exact ⟨rfl, HO.out⟩
  rw [if_neg hrm] at hc
  obtain ⟨rfl, hps, ho⟩ := hc
  have HP := Lib.hid hps
  have HO := Lib.hid (HO1.out.trans ho)
  have HB := Lib.hid (HB0.out.only ho (by simp; omega))
  clear hps ho x1 HP0 HB0 HO0 HO1
  have HF0 := Lib.hid (show pval (n + 1) bs 6 nest at_ room = plist n bs (nest + 1) at_ (room - 1) [] by unfold pval; rw [if_neg (by omega), if_neg (by omega), if_neg (by omega), if_neg (by omega), if_neg (by omega), if_neg (by omega), if_neg (by omega), if_pos rfl])
  have HC := Lib.hid (HL n (by omega) w1 G r bs s (nest + 1) at_ (room - 1) HP.out (by omega) (by omega) hbl (by omega) (by omega))
  have hBx := HB.out
  go_wp2_with fail
  refine HC.out.mono ?_
  clear HC
  intro e w2 hc
  clear hBx
  unfold ValPost at hc
  cases hpl : plist n bs (nest + 1) at_ (room - 1) [] with
  | bad p c =>
    rw [hpl] at hc HF0
    obtain ⟨rfl, ho⟩ := hc
    have HO2 := Lib.hid (HO.out.trans ho)
    clear ho hpl
    go_wp2
    refine ⟨rfl, ?_⟩
    rw [HF0.out]
    exact ⟨rfl, HO2.out⟩
  | ok v q rm =>
    rw [hpl] at hc HF0
    obtain ⟨cs, S, rfl, hvo, hnd, hge, hps, ho⟩ := hc
    obtain ⟨k, i, rr, t, sv, rfl⟩ := hvo.five
    have HVO := Lib.hid (And.intro hvo (And.intro hnd hge))
    have HP2 := Lib.hid hps
    have HO2 := Lib.hid (HO.out.trans ho)
    have HB2 := Lib.hid (HB.out.only ho (by simp; omega))
    have hw1 : w.heap.size < w1.heap.size := HB.out.lt
    clear hvo hnd hge hps ho hpl HB HO HP
    obtain ⟨sa, sn, sc, rfl⟩ : ∃ a n c, sv = .slice a n c := by
      obtain ⟨k', i', r', t', a', n', c', e⟩ := HVO.out.1.vis.five
      simp at e
      exact ⟨_, _, _, e.2.2.2.2⟩
    go_wp2_with (refine wpList_store_blk rfl 33 (.tmp 6) (.tmp 88) rfl [iv k, iv i, fv rr, .string t, .slice sa sn sc] rfl rfl HB2.out (by kernel_rfl) (by simp) (by simp [Value.oneCell']) ?_)
    intro w3 hB3 hO3
    have HB3 := Lib.hid hB3
    have HO3 := Lib.hid hO3
    clear hB3 hO3
    go_wp2
    refine bodyPost_ret (results1 rfl (res_blk (cs := [iv k, iv i, fv rr, .string t, .slice sa sn sc]) Try.underlying33 (by kernel_rfl) rfl HB3.out)) rfl ?_
    rw [HF0.out]
    exact ⟨[iv k, iv i, fv rr, .string t, .slice sa sn sc], S, rfl, HVO.out.1.only HO3.out (fun g hg hm => by have := HVO.out.2.2 g hg; simp at hm; omega), HVO.out.2.1, (fun g hg => by have := HVO.out.2.2 g hg; omega), HGF.out _ _ _ (HP2.out.far HO3.out (by omega) (fun g hg => by have := (HG.out g hg).2; omega)), HO2.out.trans' HO3.out (fun i hi => .inr (by simp at hi; omega))⟩
/-- A value, from lists. -/
theorem val_step (n : Nat) (HL : ∀ m, m < n → LstOk m) : ValOk n := by
  intro w F r bs s first nest at_ room h h0 h1 hbl hn hf hfu
  by_cases k1 : first = 1
  · exact val_one n w F r bs s first nest at_ room h h0 h1 hbl hn k1 hfu
  by_cases k2 : first = 2
  · exact val_two n w F r bs s first nest at_ room h h0 h1 hbl hn k2 hfu
  by_cases k3 : first = 3
  · exact val_three n w F r bs s first nest at_ room h h0 h1 hbl hn k3 hfu
  by_cases k4 : first = 4
  · exact val_four n w F r bs s first nest at_ room h h0 h1 hbl hn k4 hfu
  by_cases k5 : first = 5
  · exact val_five n w F r bs s first nest at_ room h h0 h1 hbl hn k5 hfu
  by_cases k6 : first = 6
  · exact val_six n HL w F r bs s first nest at_ room h h0 h1 hbl hn k6 hfu
  · exact val_other n w F r bs s first nest at_ room h h0 h1 hbl hn ⟨hf, by omega⟩ hfu
end Go.Proofs.Ytffdfegelgpniaa
