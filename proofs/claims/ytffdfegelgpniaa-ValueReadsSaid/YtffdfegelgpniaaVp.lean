/-
  Reading a value whose first byte has been taken.
-/
import Derived.Test.YtffdfegelgpniaaVo
import Derived.Test.YtffdfegelgpniaaEach
set_option linter.unusedSimpArgs false
set_option linter.unusedVariables false
namespace Go.Proofs.Ytffdfegelgpniaa
open Go.RowKit Go.Fl

def ValPost (w : World) (F : Nat → Prop) (r : Nat) (bs : List Nat) (s : Value) (res : PR) (e : Ending) (w' : World) : Prop :=
  match res with
  | .bad p c => e = .panicked [{ v := wrongV p c, recovered := false }] ∧ Only [r] w w'
  | .ok v q rm => ∃ cs S, e = .returned (.agg cs.toArray) ∧ VO w' v cs S ∧ S.Nodup ∧ (∀ g ∈ S, w.heap.size ≤ g) ∧ PS w' F r bs s q rm ∧ Only [r] w w'
def ValOk (n : Nat) : Prop := ∀ (w : World) (F : Nat → Prop) (r : Nat) (bs : List Nat) (s : Value) (first nest at_ : Nat) (room : Int), PS w F r bs s at_ room → 0 ≤ room → room ≤ 65536 → bs.length ≤ 2 ^ 40 → nest ≤ 8 → first < 256 → 2 * (bs.length - at_) + 2 ≤ n →
  Calls Try.prog 36 #[.pointer (some ⟨r, 0, none⟩), .int .u8 first, iv nest] w (ValPost w F r bs s (pval n bs first nest at_ room))
def LstOk (n : Nat) : Prop := ∀ (w : World) (F : Nat → Prop) (r : Nat) (bs : List Nat) (s : Value) (nest at_ : Nat) (room : Int), PS w F r bs s at_ room → 0 ≤ room → room ≤ 65536 → bs.length ≤ 2 ^ 40 → nest ≤ 8 → 2 * (bs.length - at_) + 1 ≤ n →
  Calls Try.prog 53 #[.pointer (some ⟨r, 0, none⟩), iv nest] w (ValPost w F r bs s (plist n bs nest at_ room []))
theorem PS.far {w w' : World} {F : Nat → Prop} {r b : Nat} {bs : List Nat} {s : Value} {at_ : Nat} {room : Int} (h : PS w F r bs s at_ room) (ho : Only [b] w w') (hr : r ≠ b) (hF : ∀ g, F g → g ≠ b) : PS w' F r bs s at_ room :=
  ⟨h.blk.only ho (by simpa using hr), h.bytes.only ho (fun g hg hm => hF g hg (by simpa using hm)), h.out, h.le⟩
abbrev zeroV : List Value := [.int .i64 0, .int .i64 0, .float .f64 0, .string ⟨#[]⟩, .slice none 0 0]
theorem wf_nat {c : Nat} (h : c < 256) : (Lit.int .i64 c).wf = true := by
  simp [Lit.wf, IntKind.min, IntKind.max, IntKind.bits, IntKind.signed]
  omega
set_option maxRecDepth 100000 in
set_option maxHeartbeats 3200000 in
theorem val_one (n : Nat) : ∀ (w : World) (F : Nat → Prop) (r : Nat) (bs : List Nat) (s : Value) (first nest at_ : Nat) (room : Int), PS w F r bs s at_ room → 0 ≤ room → room ≤ 65536 → bs.length ≤ 2 ^ 40 → nest ≤ 8 → first = 1 → 2 * (bs.length - at_) + 2 ≤ n →
    Calls Try.prog 36 #[.pointer (some ⟨r, 0, none⟩), .int .u8 first, iv nest] w (ValPost w F r bs s (pval n bs first nest at_ room)) := by
  intro w F r bs s first nest at_ room h h0 h1 hbl hn hf hfu
  obtain ⟨n, rfl⟩ : ∃ m, n = m + 1 := ⟨n - 1, by omega⟩
  have hFr := h.out
  have hst := h.strict
  have HBB := Lib.hid (show ∀ c ∈ bs, c < 256 by obtain ⟨_, _, _, _, _, hb, _⟩ := h.bytes; exact hb)
  have hrl := h.blk.lt
  have hle := h.le
  clear h
  obtain ⟨G, hG⟩ : ∃ G : Nat → Prop, G = fun g => F g ∧ g < w.heap.size := ⟨_, rfl⟩
  rw [← hG] at hst
  have HG := Lib.hid (show ∀ g, G g → F g ∧ g < w.heap.size by rw [hG]; exact fun _ h => h)
  have HGF := Lib.hid (show ∀ (w' : World) (q : Nat) (rm : Int), PS w' G r bs s q rm → PS w' F r bs s q rm from fun _ _ _ h => h.mono (fun g hg => (HG.out g hg).1) hFr)
  have H := Lib.hid hst
  clear hst hG
  obtain ⟨w0, hw0⟩ : ∃ x : World, x = w.alloc (.cells zeroV.toArray 33) := ⟨_, rfl⟩
  have HW0 := Lib.hid hw0
  have HB0 := Lib.hid (show Blk w0 w.heap.size 33 zeroV.toArray by rw [hw0]; exact Blk.new _ _ _)
  have HO0 := Lib.hid (show Only [] w w0 by rw [hw0]; exact (Only.refl _ w).alloc _)
  have HO1 := Lib.hid (HO0.out.mono (T := [r]) (by simp))
  have HP0 := Lib.hid (H.out.only HO0.out)
  have x1 := H.out.blk.cell 1
  simp at x1
  clear hw0
  subst hf
  have HC := Lib.hid (count_ok HP0.out 1 (at_ - 1) h0 h1 (by omega) (by omega))
  go_enter Try.func36, Try.ntmps36
  go_wp2_with fail
  rw [← HW0.out]
  refine HC.out.mono ?_
  clear HC
  intro e w1 hc
  unfold CountPost at hc
  by_cases hrm : room - 1 < 0
  · rw [if_pos hrm] at hc
    obtain ⟨rfl, ho⟩ := hc
    have HO := Lib.hid (HO1.out.trans ho)
    have HF := Lib.hid (show pval (n + 1) bs 1 nest at_ room = .bad (at_ - 1) 3 by unfold pval; rw [if_neg (by omega), if_pos (by omega)])
    clear ho
    go_wp2
    refine ⟨rfl, ?_⟩
    rw [HF.out]
    exact ⟨rfl, HO.out⟩
  rw [if_neg hrm] at hc
  obtain ⟨rfl, hps, ho⟩ := hc
  have HP := Lib.hid hps
  have HO := Lib.hid (HO1.out.trans ho)
  have HB := Lib.hid (HB0.out.only ho (by simp; omega))
  clear hps ho x1 HP0 HB0 HO0 HO1
  have HF := Lib.hid (show pval (n + 1) bs 1 nest at_ room = .ok (.mk 1 0 0 ⟨#[]⟩ []) at_ (room - 1) by unfold pval; rw [if_neg (by omega), if_neg (by omega)]; rfl)
  go_wp2_with (refine wpList_store_blk rfl 33 (.tmp 6) (.tmp 40) rfl [iv 1, iv 0, fv 0, .string ⟨#[]⟩, .slice none 0 0] rfl rfl HB.out (by kernel_rfl) (by simp) (by simp [Value.oneCell']) ?_)
  intro w2 hB2 hO2
  have HB2 := Lib.hid hB2
  have HO2 := Lib.hid hO2
  clear hB2 hO2
  go_wp2
  refine bodyPost_ret (results1 rfl (res_blk (cs := [iv 1, iv 0, fv 0, .string ⟨#[]⟩, .slice none 0 0]) Try.underlying33 (by kernel_rfl) rfl HB2.out)) rfl ?_
  rw [HF.out]
  exact ⟨[iv 1, iv 0, fv 0, .string ⟨#[]⟩, .slice none 0 0], [], rfl, VO.plain (by decide) (by decide) (by omega) (Nat.zero_le _), List.nodup_nil, (fun g hg => by cases hg), HGF.out _ _ _ (HP.out.far HO2.out (by omega) (fun g hg => by have := (HG.out g hg).2; omega)), HO.out.trans' HO2.out (fun i hi => .inr (by simp at hi; omega))⟩
set_option maxRecDepth 100000 in
set_option maxHeartbeats 3200000 in
theorem val_two (n : Nat) : ∀ (w : World) (F : Nat → Prop) (r : Nat) (bs : List Nat) (s : Value) (first nest at_ : Nat) (room : Int), PS w F r bs s at_ room → 0 ≤ room → room ≤ 65536 → bs.length ≤ 2 ^ 40 → nest ≤ 8 → first = 2 → 2 * (bs.length - at_) + 2 ≤ n →
    Calls Try.prog 36 #[.pointer (some ⟨r, 0, none⟩), .int .u8 first, iv nest] w (ValPost w F r bs s (pval n bs first nest at_ room)) := by
  intro w F r bs s first nest at_ room h h0 h1 hbl hn hf hfu
  obtain ⟨n, rfl⟩ : ∃ m, n = m + 1 := ⟨n - 1, by omega⟩
  have hFr := h.out
  have hst := h.strict
  have HBB := Lib.hid (show ∀ c ∈ bs, c < 256 by obtain ⟨_, _, _, _, _, hb, _⟩ := h.bytes; exact hb)
  have hrl := h.blk.lt
  have hle := h.le
  clear h
  obtain ⟨G, hG⟩ : ∃ G : Nat → Prop, G = fun g => F g ∧ g < w.heap.size := ⟨_, rfl⟩
  rw [← hG] at hst
  have HG := Lib.hid (show ∀ g, G g → F g ∧ g < w.heap.size by rw [hG]; exact fun _ h => h)
  have HGF := Lib.hid (show ∀ (w' : World) (q : Nat) (rm : Int), PS w' G r bs s q rm → PS w' F r bs s q rm from fun _ _ _ h => h.mono (fun g hg => (HG.out g hg).1) hFr)
  have H := Lib.hid hst
  clear hst hG
  obtain ⟨w0, hw0⟩ : ∃ x : World, x = w.alloc (.cells zeroV.toArray 33) := ⟨_, rfl⟩
  have HW0 := Lib.hid hw0
  have HB0 := Lib.hid (show Blk w0 w.heap.size 33 zeroV.toArray by rw [hw0]; exact Blk.new _ _ _)
  have HO0 := Lib.hid (show Only [] w w0 by rw [hw0]; exact (Only.refl _ w).alloc _)
  have HO1 := Lib.hid (HO0.out.mono (T := [r]) (by simp))
  have HP0 := Lib.hid (H.out.only HO0.out)
  have x1 := H.out.blk.cell 1
  simp at x1
  clear hw0
  subst hf
  have HC := Lib.hid (count_ok HP0.out 1 (at_ - 1) h0 h1 (by omega) (by omega))
  go_enter Try.func36, Try.ntmps36
  go_wp2_with fail
  rw [← HW0.out]
  refine HC.out.mono ?_
  clear HC
  intro e w1 hc
  unfold CountPost at hc
  by_cases hrm : room - 1 < 0
  · rw [if_pos hrm] at hc
    obtain ⟨rfl, ho⟩ := hc
    have HO := Lib.hid (HO1.out.trans ho)
    have HF := Lib.hid (show pval (n + 1) bs 2 nest at_ room = .bad (at_ - 1) 3 by unfold pval; rw [if_neg (by omega), if_pos (by omega)])
    clear ho
    go_wp2
    refine ⟨rfl, ?_⟩
    rw [HF.out]
    exact ⟨rfl, HO.out⟩
  rw [if_neg hrm] at hc
  obtain ⟨rfl, hps, ho⟩ := hc
  have HP := Lib.hid hps
  have HO := Lib.hid (HO1.out.trans ho)
  have HB := Lib.hid (HB0.out.only ho (by simp; omega))
  clear hps ho x1 HP0 HB0 HO0 HO1
  have HN := Lib.hid (next_ok HP.out)
  go_wp2_with fail
  refine HN.out.mono ?_
  clear HN
  intro e w2 hn
  unfold NextPost at hn
  by_cases hk : at_ < bs.length
  · rw [List.getElem?_eq_getElem hk] at hn
    obtain ⟨rfl, hps, ho⟩ := hn
    have HF0 := Lib.hid (show pval (n + 1) bs 2 nest at_ room = (if 1 < bs[at_] then .bad at_ 4 else .ok (.mk 2 bs[at_] 0 ⟨#[]⟩ []) (at_ + 1) (room - 1)) by unfold pval; rw [if_neg (by omega), if_neg (by omega), if_neg (by omega), if_pos rfl, List.getElem?_eq_getElem hk])
    have hcb := HBB.out _ (List.getElem_mem hk)
    generalize bs[at_] = c at *
    have HP2 := Lib.hid hps
    have HO3 := Lib.hid (HO.out.trans ho)
    have HB3 := Lib.hid (HB.out.only ho (by simp; omega))
    clear hps ho HP HO HB
    by_cases hc1 : 1 < c
    · have hc2 : (1 : Int) < (c : Int) := by omega
      have HF := Lib.hid (show pval (n + 1) bs 2 nest at_ room = .bad at_ 4 by rw [HF0.out, if_pos hc1])
      have x1 := HP2.out.blk.cell 1
      simp at x1
      clear HF0
      go_wp2_with fail
      refine (fail_ok _ _ _).mono ?_
      rintro e w3 ⟨rfl, rfl⟩
      go_wp2
      refine ⟨rfl, ?_⟩
      rw [HF.out]
      refine ⟨?_, HO3.out⟩
      exact congrArg (fun z => Ending.panicked [{ v := wrongV z 4, recovered := false }]) (by omega)
    · have hc2 : ¬ (1 : Int) < (c : Int) := by omega
      have HF := Lib.hid (show pval (n + 1) bs 2 nest at_ room = .ok (.mk 2 c 0 ⟨#[]⟩ []) (at_ + 1) (room - 1) by rw [HF0.out, if_neg hc1])
      have HP := HP2
      have HO := HO3
      have HB := HB3
      clear HF0 HP2 HO3 HB3
      go_wp2_with (refine wpList_store_blk rfl 33 (.tmp 6) (.tmp 55) rfl [iv 2, iv c, fv 0, .string ⟨#[]⟩, .slice none 0 0] rfl rfl HB.out (by kernel_rfl) (by simp) (by simp [Value.oneCell']) ?_)
      intro w2 hB2 hO2
      have HB2 := Lib.hid hB2
      have HO2 := Lib.hid hO2
      clear hB2 hO2
      go_wp2
      refine bodyPost_ret (results1 rfl (res_blk (cs := [iv 2, iv c, fv 0, .string ⟨#[]⟩, .slice none 0 0]) Try.underlying33 (by kernel_rfl) rfl HB2.out)) rfl ?_
      rw [HF.out]
      exact ⟨[iv 2, iv c, fv 0, .string ⟨#[]⟩, .slice none 0 0], [], rfl, VO.plain (by decide) (wf_nat (by omega)) (by omega) (Nat.zero_le _), List.nodup_nil, (fun g hg => by cases hg), HGF.out _ _ _ (HP.out.far HO2.out (by omega) (fun g hg => by have := (HG.out g hg).2; omega)), HO.out.trans' HO2.out (fun i hi => .inr (by simp at hi; omega))⟩
  · rw [List.getElem?_eq_none (by omega)] at hn
    obtain ⟨rfl, ho⟩ := hn
    have HF := Lib.hid (show pval (n + 1) bs 2 nest at_ room = .bad bs.length 2 by unfold pval; rw [if_neg (by omega), if_neg (by omega), if_neg (by omega), if_pos rfl, List.getElem?_eq_none (by omega)])
    have HO2 := Lib.hid (HO.out.trans ho)
    clear ho
    go_wp2
    refine ⟨rfl, ?_⟩
    rw [HF.out]
    exact ⟨rfl, HO2.out⟩
set_option maxRecDepth 100000 in
set_option maxHeartbeats 3200000 in
theorem val_other (n : Nat) : ∀ (w : World) (F : Nat → Prop) (r : Nat) (bs : List Nat) (s : Value) (first nest at_ : Nat) (room : Int), PS w F r bs s at_ room → 0 ≤ room → room ≤ 65536 → bs.length ≤ 2 ^ 40 → nest ≤ 8 → first < 256 ∧ ¬ (1 ≤ first ∧ first ≤ 6) → 2 * (bs.length - at_) + 2 ≤ n →
    Calls Try.prog 36 #[.pointer (some ⟨r, 0, none⟩), .int .u8 first, iv nest] w (ValPost w F r bs s (pval n bs first nest at_ room)) := by
  intro w F r bs s first nest at_ room h h0 h1 hbl hn hf hfu
  obtain ⟨n, rfl⟩ : ∃ m, n = m + 1 := ⟨n - 1, by omega⟩
  have hFr := h.out
  have hst := h.strict
  have HBB := Lib.hid (show ∀ c ∈ bs, c < 256 by obtain ⟨_, _, _, _, _, hb, _⟩ := h.bytes; exact hb)
  have hrl := h.blk.lt
  have hle := h.le
  clear h
  obtain ⟨G, hG⟩ : ∃ G : Nat → Prop, G = fun g => F g ∧ g < w.heap.size := ⟨_, rfl⟩
  rw [← hG] at hst
  have HG := Lib.hid (show ∀ g, G g → F g ∧ g < w.heap.size by rw [hG]; exact fun _ h => h)
  have HGF := Lib.hid (show ∀ (w' : World) (q : Nat) (rm : Int), PS w' G r bs s q rm → PS w' F r bs s q rm from fun _ _ _ h => h.mono (fun g hg => (HG.out g hg).1) hFr)
  have H := Lib.hid hst
  clear hst hG
  obtain ⟨w0, hw0⟩ : ∃ x : World, x = w.alloc (.cells zeroV.toArray 33) := ⟨_, rfl⟩
  have HW0 := Lib.hid hw0
  have HB0 := Lib.hid (show Blk w0 w.heap.size 33 zeroV.toArray by rw [hw0]; exact Blk.new _ _ _)
  have HO0 := Lib.hid (show Only [] w w0 by rw [hw0]; exact (Only.refl _ w).alloc _)
  have HO1 := Lib.hid (HO0.out.mono (T := [r]) (by simp))
  have HP0 := Lib.hid (H.out.only HO0.out)
  have x1 := H.out.blk.cell 1
  simp at x1
  clear hw0
  have q1 : ((first : Int) == 1) = false := by rw [beq_eq_false_iff_ne]; omega
  have q2 : ((first : Int) == 2) = false := by rw [beq_eq_false_iff_ne]; omega
  have q3 : ((first : Int) == 3) = false := by rw [beq_eq_false_iff_ne]; omega
  have q4 : ((first : Int) == 4) = false := by rw [beq_eq_false_iff_ne]; omega
  have q5 : ((first : Int) == 5) = false := by rw [beq_eq_false_iff_ne]; omega
  have q6 : ((first : Int) == 6) = false := by rw [beq_eq_false_iff_ne]; omega
  have q7 : ((first : Int) != 5) = true := by rw [bne_iff_ne]; omega
  have HF := Lib.hid (show pval (n + 1) bs first nest at_ room = .bad (at_ - 1) 4 by unfold pval; rw [if_neg (by omega), if_neg (by omega), if_neg (by omega), if_neg (by omega), if_neg (by omega), if_neg (by omega), if_neg (by omega), if_neg (by omega)])
  by_cases hz : first = 0
  · subst hz
    go_enter Try.func36, Try.ntmps36
    go_wp2_with fail
    refine (fail_ok _ _ _).mono ?_
    rintro e w3 ⟨rfl, rfl⟩
    rw [← HW0.out]
    go_wp2
    refine ⟨rfl, ?_⟩
    rw [HF.out]
    exact ⟨rfl, HO1.out⟩
  · have g1 : decide ((1 : Int) ≤ (first : Int)) = true := by simp; omega
    have g2 : decide ((first : Int) ≤ 6) = false := by simp; omega
    go_enter Try.func36, Try.ntmps36
    go_wp2_with fail
    refine (fail_ok _ _ _).mono ?_
    rintro e w3 ⟨rfl, rfl⟩
    rw [← HW0.out]
    go_wp2
    refine ⟨rfl, ?_⟩
    rw [HF.out]
    exact ⟨rfl, HO1.out⟩
end Go.Proofs.Ytffdfegelgpniaa
