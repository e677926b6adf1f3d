/-
  Clock: New, Now, After, Next.
-/
import Derived.Test.YtjnhplgdbdneiaaDh
set_option linter.unusedSimpArgs false
set_option linter.unusedVariables false
namespace Go.Proofs.Ytjnhplgdbdneiaa
open Go.RowKit Go.Fl

abbrev cp (r : Nat) : Value := .pointer (some ⟨r, 0, none⟩)
/-- No clock. -/
def NoC (w : World) (c : Value) : Prop := c = .pointer none ∨ ∃ r, c = cp r ∧ w.cell? ⟨r, 0, none⟩ = some (.bool false)
set_option maxRecDepth 100000 in
theorem there_ck {w : World} {r now : Nat} {last : Int} {l : List Tm} {s : Value} (h : CK w r now last l s) : Calls Try.prog 28 #[cp r] w fun e w' => e = .returned (.bool true) ∧ w' = w := by
  have x0 := h.blk.cell 0
  simp at x0
  clear h
  go_enter Try.func28, Try.ntmps28
  go_wp2
  exact bodyPost_ret (results_tmp rfl _ _ _) rfl ⟨rfl, rfl⟩
set_option maxRecDepth 100000 in
theorem there_no {w : World} {c : Value} (h : NoC w c) : Calls Try.prog 28 #[c] w fun e w' => e = .returned (.bool false) ∧ w' = w := by
  rcases h with rfl | ⟨r, rfl, x0⟩
  · go_enter Try.func28, Try.ntmps28
    go_wp2
    exact bodyPost_ret (results_tmp rfl _ _ _) rfl ⟨rfl, rfl⟩
  · go_enter Try.func28, Try.ntmps28
    go_wp2
    exact bodyPost_ret (results_tmp rfl _ _ _) rfl ⟨rfl, rfl⟩
set_option maxRecDepth 100000 in
theorem now_ck {w : World} {r now : Nat} {last : Int} {l : List Tm} {s : Value} (h : CK w r now last l s) : Calls Try.prog 14 #[cp r] w fun e w' => e = .returned (fv now) ∧ w' = w := by
  have HT := Lib.hid (there_ck h)
  have x1 := h.blk.cell 1
  simp at x1
  clear h
  go_enter Try.func14, Try.ntmps14
  go_wp2_with fail
  refine HT.out.mono ?_
  rintro e w1 ⟨rfl, rfl⟩
  go_wp2
  exact bodyPost_ret (results_tmp rfl _ _ _) rfl ⟨rfl, rfl⟩
set_option maxRecDepth 100000 in
theorem now_no {w : World} {c : Value} (h : NoC w c) : Calls Try.prog 14 #[c] w fun e w' => e = .returned (fv 0) ∧ w' = w := by
  have HT := Lib.hid (there_no h)
  clear h
  go_enter Try.func14, Try.ntmps14
  go_wp2_with fail
  refine HT.out.mono ?_
  rintro e w1 ⟨rfl, rfl⟩
  go_wp2
  exact bodyPost_ret (results_tmp rfl _ _ _) rfl ⟨rfl, rfl⟩
theorem plV_lt {x : Nat} (hx : x < 18446744073709551616) : plV x < 18446744073709551616 := by
  unfold plV
  split <;> omega
set_option maxRecDepth 100000 in
theorem new8 (w : World) (x : Nat) (hx : x < 18446744073709551616) : Calls Try.prog 8 #[fv x] w fun e w' =>
    ((plB x = true ∧ plV x ≠ 9218868437227405312) ∧ e = .returned (.tuple #[cp w.heap.size, iv 0]) ∧ CK w' w.heap.size (plV x) 0 [] (.slice none 0 0) ∧ Only [] w w') ∨ (¬ (plB x = true ∧ plV x ≠ 9218868437227405312) ∧ e = .returned (.tuple #[.pointer none, iv 1]) ∧ w' = w) := by
  have HP := Lib.hid (plain27 w x)
  have HI := Lib.hid (inf11 w (plV x) (plV_lt hx))
  go_enter Try.func8, Try.ntmps8
  go_wp2_with fail
  refine HP.out.mono ?_
  rintro e w1 ⟨rfl, rfl⟩
  cases hb : plB x
  · go_wp2
    exact bodyPost_ret (results2 rfl (res_tmp rfl) (res_tmp rfl)) rfl (.inr ⟨fun h => by simp [hb] at h, rfl, rfl⟩)
  · go_wp2_with fail
    refine HI.out.mono ?_
    rintro e w1 ⟨rfl, rfl⟩
    by_cases hi : plV x = 9218868437227405312
    · rw [decide_eq_true hi]
      go_wp2
      exact bodyPost_ret (results2 rfl (res_tmp rfl) (res_tmp rfl)) rfl (.inr ⟨fun h => h.2 hi, rfl, rfl⟩)
    · rw [decide_eq_false hi]
      go_wp2
      exact bodyPost_ret (results2 rfl (res_tmp rfl) (res_tmp rfl)) rfl (.inl ⟨⟨hb, hi⟩, rfl, ⟨Blk.new _ _ _, Sl.nil _ _ _, fun y hy => by cases hy⟩, (Only.refl _ _).alloc _⟩)
/-- The time at which a timer goes off. -/
def addW (now t : Nat) : Nat := if t = 9218868437227405312 then 9218868437227405312 else rnd (rval now + rval t)
theorem rnd_top (N : Nat) : rnd N ≤ 9218868437227405312 := by unfold rnd; omega
theorem addW_le (now t : Nat) : addW now t ≤ 9218868437227405312 := by
  unfold addW
  split
  · exact Nat.le_refl _
  · exact rnd_top _
theorem addW_run {now t : Nat} (hn : now < 9218868437227405312) (ht : t ≤ 9218868437227405312) (w : World) : (binOp .add 29 (fv now) (fv t)).run Try.prog w = .ok (fv (addW now t)) w := by
  apply run_float_arith
  show Ieee.double.add now t = some (addW now t)
  unfold addW
  by_cases h : t = 9218868437227405312
  · rw [if_pos h, h]
    exact add_inf hn
  · rw [if_neg h]
    exact add_fin hn (by omega)
/-- What After answers, and leaves. -/
def AfterPost (w : World) (r now d : Nat) (last : Int) (l : List Tm) (s : Value) (e : Ending) (w' : World) : Prop :=
  if plB d = true then
    if 256 ≤ l.length then e = .returned (.tuple #[iv 0, iv 9]) ∧ w' = w
    else e = .returned (.tuple #[iv (last + 1), iv 0]) ∧ ∃ s', CK w' r now (last + 1) (hpush l (last + 1, addW now (plV d))) s' ∧ GW w r s w' s'
  else e = .returned (.tuple #[iv 0, iv 1]) ∧ w' = w
set_option maxRecDepth 100000 in
set_option maxHeartbeats 3200000 in
theorem after9 (w : World) {r now d : Nat} {last : Int} {l : List Tm} {s : Value} (h : CK w r now last l s) (hn : now < 9218868437227405312) (hd : d < 18446744073709551616) (hl : 0 ≤ last ∧ last < 4611686018427387904) :
    Calls Try.prog 9 #[cp r, fv d] w (AfterPost w r now d last l s) := by
  have HP := Lib.hid (plain27 w d)
  have HT := Lib.hid (there_ck h)
  have H := Lib.hid h
  have HN := Lib.hid hn
  have HD := Lib.hid hd
  have x1 := h.blk.cell 1
  have x2 := h.blk.cell 2
  have x3 := h.blk.cell 3
  have xf := h.blk.frozen
  have xl := h.blk.lt
  simp at x1 x2 x3
  obtain ⟨a, cap, rfl, _⟩ := h.sl.shape
  have e1 : wrap64 (last + 1) = last + 1 := by unfold wrap64; omega
  clear h hn hd hl
  cases hb : plB d
  · have HF := Lib.hid hb
    rw [hb] at HP
    clear hb
    go_enter Try.func9, Try.ntmps9
    go_wp2_with fail
    refine HP.out.mono ?_
    rintro e w1 ⟨rfl, rfl⟩
    go_wp2_with fail
    refine HT.out.mono ?_
    rintro e w1 ⟨rfl, rfl⟩
    go_wp2
    exact bodyPost_ret (results2 rfl (res_tmp rfl) (res_tmp rfl)) rfl (by unfold AfterPost; rw [HF.out, if_neg (by simp)]; exact ⟨rfl, rfl⟩)
  · have HF := Lib.hid hb
    rw [hb] at HP
    by_cases hm : 256 ≤ l.length
    · have hmz : (256 : Int) ≤ (l.length : Int) := by omega
      have HM := Lib.hid hm
      clear hm hb
      go_enter Try.func9, Try.ntmps9
      go_wp2_with fail
      refine HP.out.mono ?_
      rintro e w1 ⟨rfl, rfl⟩
      go_wp2_with fail
      refine HT.out.mono ?_
      rintro e w1 ⟨rfl, rfl⟩
      go_wp2
      exact bodyPost_ret (results2 rfl (res_tmp rfl) (res_tmp rfl)) rfl (by unfold AfterPost; rw [HF.out, if_pos rfl, if_pos HM.out]; exact ⟨rfl, rfl⟩)
    · have hmz : ¬ (256 : Int) ≤ (l.length : Int) := by omega
      have HM := Lib.hid hm
      have HLE := Lib.hid (plB_le HD.out hb).1
      have hadd := fun w => addW_run HN.out HLE.out w
      clear hm hb
      go_enter Try.func9, Try.ntmps9
      go_wp2_with fail
      refine HP.out.mono ?_
      rintro e w1 ⟨rfl, rfl⟩
      go_wp2_with fail
      refine HT.out.mono ?_
      rintro e w1 ⟨rfl, rfl⟩
      have HC2 := Lib.hid (show CK (w1.setCell ⟨r, 2, none⟩ (.int .i64 (last + 1))) r now (last + 1) l (.slice a l.length cap) from ⟨by have := H.out.blk.set_ 2 (iv (last + 1)); simpa using this, H.out.sl.far (by have := H.out.ne; simpa using this) _, H.out.le⟩)
      have HO2 := Lib.hid (show GW w1 r (.slice a l.length cap) (w1.setCell ⟨r, 2, none⟩ (.int .i64 (last + 1))) (.slice a l.length cap) from ⟨(Only.refl _ _).setCell (.inl (by simp)) _, fun g hg => .inl hg⟩)
      go_wp2
      generalize w1.setCell ⟨r, 2, none⟩ (.int .i64 (last + 1)) = w2 at *
      have x1 := HC2.out.blk.cell 1
      have x2 := HC2.out.blk.cell 2
      have x3 := HC2.out.blk.cell 3
      simp at x1 x2 x3
      clear xf
      have HQ := Lib.hid (push29 w2.drew (HC2.out.only0 (Only.refl [] _).drew) (last + 1, addW now (plV d)) (addW_le _ _) (by have := HM.out; omega))
      go_still_tail 16, (by kernel_rfl)
      change wpList _ _ _ _ _ w2.drew
      go_wp2_with fail
      refine HQ.out.mono ?_
      clear HQ
      rintro e w3 ⟨rfl, s3, hc, hg⟩
      have HC3 := Lib.hid hc
      have HG3 := Lib.hid (HO2.out.trans (show GW w2 r (.slice a l.length cap) w3 s3 from ⟨(Only.refl _ _).drew.trans hg.only, hg.own⟩))
      have y2 := hc.blk.cell 2
      simp at y2
      clear hc hg x1 x2 x3
      go_wp2
      exact bodyPost_ret (results2 rfl (res_tmp rfl) (res_tmp rfl)) rfl (by unfold AfterPost; rw [HF.out, if_pos rfl, if_neg HM.out]; exact ⟨rfl, s3, HC3.out, HG3.out⟩)
set_option maxRecDepth 100000 in
theorem after_no (w : World) {c : Value} (h : NoC w c) (d : Nat) : Calls Try.prog 9 #[c, fv d] w fun e w' => e = .returned (.tuple #[iv 0, iv 1]) ∧ w' = w := by
  have HP := Lib.hid (plain27 w d)
  have HT := Lib.hid (there_no h)
  clear h
  go_enter Try.func9, Try.ntmps9
  go_wp2_with fail
  refine HP.out.mono ?_
  rintro e w1 ⟨rfl, rfl⟩
  go_wp2_with fail
  refine HT.out.mono ?_
  rintro e w1 ⟨rfl, rfl⟩
  go_wp2
  exact bodyPost_ret (results2 rfl (res_tmp rfl) (res_tmp rfl)) rfl ⟨rfl, rfl⟩
/-- The next time, if there is one. -/
def nextV (l : List Tm) : Nat := if l = [] ∨ (l.getD 0 (0, 0)).2 = 9218868437227405312 then 0 else (l.getD 0 (0, 0)).2
def nextB (l : List Tm) : Bool := decide (¬ (l = [] ∨ (l.getD 0 (0, 0)).2 = 9218868437227405312))
set_option maxRecDepth 100000 in
set_option maxHeartbeats 1600000 in
theorem next25 (w : World) {r now : Nat} {last : Int} {l : List Tm} {s : Value} (h : CK w r now last l s) : Calls Try.prog 25 #[cp r] w fun e w' => e = .returned (.tuple #[fv (nextV l), .bool (nextB l)]) ∧ w' = w := by
  have HT := Lib.hid (there_ck h)
  have x3 := h.blk.cell 3
  simp at x3
  unfold nextV nextB
  by_cases h0 : l = []
  · rw [if_pos (.inl h0), decide_eq_false (by simp [h0])]
    obtain ⟨a, cap, rfl, _⟩ := h.sl.shape
    subst h0
    clear h
    go_enter Try.func25, Try.ntmps25
    go_wp2_with fail
    refine HT.out.mono ?_
    rintro e w1 ⟨rfl, rfl⟩
    go_wp2
    exact bodyPost_ret (results2 rfl (res_tmp rfl) (res_tmp rfl)) rfl ⟨rfl, rfl⟩
  · have hl : 0 < l.length := List.length_pos_iff.2 h0
    obtain ⟨n, hn⟩ : ∃ n, n = l.length := ⟨_, rfl⟩
    obtain ⟨g, off, cap, rfl, _⟩ := h.sl.form hl
    obtain ⟨y0, y1⟩ := TSl.at_ h.sl hl
    have hle : (l.getD 0 (0, 0)).2 ≤ 9218868437227405312 := h.le _ (by rw [List.getD_eq_getElem?_getD, List.getElem?_eq_getElem hl]; exact List.getElem_mem hl)
    rw [← hn] at x3
    have hz : (0 : Int) < (n : Int) := by omega
    have hnz : ((n : Int) == 0) = false := by rw [beq_eq_false_iff_ne]; omega
    have HI := Lib.hid (inf11 w _ (show (l.getD 0 (0, 0)).2 < 18446744073709551616 by omega))
    simp only [Nat.zero_mul, Nat.add_zero] at y0 y1
    have H0 := Lib.hid h0
    clear h hl hle hn
    generalize l.getD 0 (0, 0) = x at *
    by_cases hi : x.2 = 9218868437227405312
    · rw [if_pos (.inr hi), decide_eq_false (by simp [hi])]
      rw [decide_eq_true hi] at HI
      clear hi h0
      go_enter Try.func25, Try.ntmps25
      go_wp2_with fail
      refine HT.out.mono ?_
      rintro e w1 ⟨rfl, rfl⟩
      go_wp2_with fail
      refine HI.out.mono ?_
      rintro e w1 ⟨rfl, rfl⟩
      go_wp2
      exact bodyPost_ret (results2 rfl (res_tmp rfl) (res_tmp rfl)) rfl ⟨rfl, rfl⟩
    · rw [if_neg (by simp [hi, h0]), decide_eq_true (by simp [hi, h0])]
      rw [decide_eq_false hi] at HI
      clear hi h0
      go_enter Try.func25, Try.ntmps25
      go_wp2_with fail
      refine HT.out.mono ?_
      rintro e w1 ⟨rfl, rfl⟩
      go_wp2_with fail
      refine HI.out.mono ?_
      rintro e w1 ⟨rfl, rfl⟩
      go_wp2
      exact bodyPost_ret (results2 rfl (res_tmp rfl) (res_tmp rfl)) rfl ⟨rfl, rfl⟩
set_option maxRecDepth 100000 in
theorem next_no (w : World) {c : Value} (h : NoC w c) : Calls Try.prog 25 #[c] w fun e w' => e = .returned (.tuple #[fv 0, .bool false]) ∧ w' = w := by
  have HT := Lib.hid (there_no h)
  clear h
  go_enter Try.func25, Try.ntmps25
  go_wp2_with fail
  refine HT.out.mono ?_
  rintro e w1 ⟨rfl, rfl⟩
  go_wp2
  exact bodyPost_ret (results2 rfl (res_tmp rfl) (res_tmp rfl)) rfl ⟨rfl, rfl⟩
end Go.Proofs.Ytjnhplgdbdneiaa
