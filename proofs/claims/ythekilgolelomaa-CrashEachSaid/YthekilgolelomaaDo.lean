/-
  The disk: a file's tail, and what is kept of it.
-/
import Derived.Test.YthekilgolelomaaDn
set_option linter.unusedSimpArgs false
set_option linter.unusedVariables false
namespace Go.Proofs.Ythekilgolelomaa
open Go.RowKit Go.Fl

/-- What does not last. -/
def FD.tail (f : FD) : List UInt8 := f.b.drop f.lasts.length
/-- How many of n bytes come to last as 0. -/
def FD.bad (f : FD) (n : Nat) : Nat := min n (f.marked - f.lasts.length)
def FD.kept (f : FD) (n : Nat) : List UInt8 := List.replicate (f.bad n) 0 ++ (f.tail.take n).drop (f.bad n)
section
variable {w w' : World} {F G : Nat → Prop} {d : Nat} {p p' : PD} {fs : Nat → FD} {ids : Nat → Prop} {nb lb : Nat} {pv fv pv' fv' bv lv : Value}
set_option maxRecDepth 100000 in
set_option maxHeartbeats 1600000 in
theorem tail_ok {i : Nat} {f : FD} (h : FM w i f bv lv) : Calls Try.prog 47 #[fp i] w fun e w' => ∃ v, e = .returned v ∧ Sl w' 5 1 v f.tail.length (byV f.tail) ∧ Only [] w w' := by
  have HB := Lib.hid h.b
  have x0 := h.blk.cell 0
  have x1 := h.blk.cell 1
  have xl := h.blk.lt
  have hle := h.ok.1
  obtain ⟨ba, bc, hbv, hbc, _⟩ := h.b.shape
  obtain ⟨la, lc, hlv, _, _⟩ := h.l.shape
  subst hbv
  subst hlv
  simp at x0 x1
  have HT := Lib.hid (h.b.cut hle)
  have HE := Lib.hid (show f.b.length - f.lasts.length = f.tail.length ∧ (byV f.b).drop (f.lasts.length * 1) = byV f.tail from ⟨by unfold FD.tail; simp, by unfold FD.tail byV; simp⟩)
  have hcc : f.lasts.length ≤ bc := by omega
  have hlz : (f.lasts.length : Int) ≤ (f.b.length : Int) := by omega
  have hcz : (f.lasts.length : Int) ≤ (bc : Int) := by omega
  clear h
  rw [HE.out.1, HE.out.2] at HT
  by_cases hq : bc = f.lasts.length
  · rw [if_pos hq] at HT
    go_enter Try.func47, Try.ntmps47
    go_upto_region 1 with fail
    refine Lex.wp_region_text (by kernel_rfl) (by kernel_rfl) ?_
    go_wp2_with fail
    refine Lex.sq_done (by rfl) ?_
    go_wp2
    refine bodyPost_ret (results_tmp rfl _ _ _) rfl ⟨_, rfl, ?_, (Only.refl _ _).drew⟩
    first | simpa [HE.out.1] using HT.out.drew | simpa [HE.out.1, hq] using HT.out.drew
  · rw [if_neg hq] at HT
    go_enter Try.func47, Try.ntmps47
    go_upto_region 1 with fail
    refine Lex.wp_region_text (by kernel_rfl) (by kernel_rfl) ?_
    go_wp2_with fail
    refine Lex.sq_done (by rfl) ?_
    go_wp2
    refine bodyPost_ret (results_tmp rfl _ _ _) rfl ⟨_, rfl, ?_, (Only.refl _ _).drew⟩
    first | simpa [HE.out.1] using HT.out.drew | simpa [HE.out.1, hq] using HT.out.drew
theorem kept_len (f : FD) {n : Nat} (h : n ≤ f.tail.length) : (f.kept n).length = n := by
  unfold FD.kept FD.bad
  simp
  omega
/-- The first k are 0 as far as they are spoilt. -/
def FD.keptK (f : FD) (n k : Nat) : List UInt8 := List.replicate k 0 ++ (f.tail.take n).drop k
theorem keptK_set (f : FD) {n k : Nat} (hn : n ≤ f.tail.length) (hk : k < n) : (f.keptK n k).set k 0 = f.keptK n (k + 1) := by
  unfold FD.keptK
  rw [List.set_append_right _ _ (by simp)]
  simp only [List.length_replicate, Nat.sub_self]
  have hl : k < (f.tail.take n).length := by simp; omega
  rw [List.drop_eq_getElem_cons hl, List.set_cons_zero, List.replicate_succ', List.append_assoc]
  rfl
theorem Sl.set1 {w : World} {e : TypeId} {g off n cap i : Nat} {xs : List Value} (h : Sl w e 1 (.slice (some ⟨g, off, none⟩) n cap) n xs) (hi : i < n) (u : Value) :
    Sl (w.setCell ⟨g, off + i, none⟩ u) e 1 (.slice (some ⟨g, off, none⟩) n cap) n (xs.set i u) := by
  refine ⟨by rw [List.length_set]; exact h.1, ?_⟩
  rcases h.2 with ⟨hv, _⟩ | ⟨g', off', cap', cur, hv, hh, h1, h2, h3, h4⟩
  · cases hv
  · injection hv with e1 _ e3
    injection e1 with e1
    injection e1 with e1 e2
    subst e1
    subst e2
    subst e3
    have hb : Blk w g e cur := hh
    refine .inr ⟨g, off, cap, cur.setIfInBounds (off + i) u, rfl, hb.set_ (off + i) u, h1, h2, by simp; omega, ?_⟩
    rw [Array.toList_setIfInBounds, ← h4, List.drop_set, if_neg (by omega), List.take_set]
    congr 1
    omega
theorem byV_set (l : List UInt8) (k : Nat) (c : UInt8) : (byV l).set k (.int .u8 c.toNat) = byV (l.set k c) := by
  unfold byV
  rw [List.map_set]
theorem bad_n {f : FD} {n k : Nat} (h : k ≤ f.bad n) (hn : ¬ k < n) : k = f.bad n := by
  unfold FD.bad at h ⊢
  omega
theorem bad_m {f : FD} {n k M : Nat} (h : k ≤ f.bad n) (hM : f.lasts.length + k = M) (hm : ¬ M < f.marked) : k = f.bad n := by
  unfold FD.bad at h ⊢
  omega
theorem bad_k {f : FD} {n k M : Nat} (hk : k < n) (hM : f.lasts.length + k = M) (hm : M < f.marked) : k + 1 ≤ f.bad n := by
  unfold FD.bad
  omega
theorem kept_at {A : Type} {l : List A} {n k : Nat} (h : l.length = n * 1) (hk : k < n) : k < l.length := by omega
theorem lt_z {a b : Nat} (h : a < b) : (a : Int) < (b : Int) := Int.ofNat_lt.2 h
theorem nlt_z {a b : Nat} (h : ¬ a < b) : ¬ (a : Int) < (b : Int) := fun e => h (Int.ofNat_lt.1 e)
set_option maxRecDepth 100000 in
set_option maxHeartbeats 1600000 in
theorem kept_ok {i : Nat} {f : FD} (h : FM w i f bv lv) {n : Nat} (hn : n ≤ f.tail.length) : Calls Try.prog 48 #[fp i, iv n] w fun e w' =>
    ∃ v, e = .returned v ∧ Sl w' 5 1 v n (byV (f.kept n)) ∧ Only [] w w' ∧ ∀ g, v.ownBlock = some g → w.heap.size ≤ g := by
  obtain ⟨j5, si, sz0, sz1, sz2⟩ := info_parts info5
  have HT := Lib.hid (tail_ok h)
  have H := Lib.hid h
  have HN := Lib.hid hn
  have HBL := Lib.hid h.ok
  have HTL := Lib.hid (show f.tail.length ≤ 1073741824 by unfold FD.tail; have := h.ok.2.2; simp; omega)
  clear h hn
  go_enter Try.func48, Try.ntmps48
  go_wp2_with fail
  refine HT.out.mono ?_
  rintro e w1 ⟨v, rfl, hs1, ho1⟩
  obtain ⟨ta, tc, hv, htc, _⟩ := hs1.shape
  subst hv
  have HS1 := Lib.hid hs1
  have HO1 := Lib.hid ho1
  have hnz : (n : Int) ≤ (tc : Int) := by have := HN.out; omega
  have HF := Lib.hid (Sl.front hs1 (k := n) (cap2 := tc) HN.out (by omega) (Nat.le_refl _))
  rw [Nat.mul_one, ← byV_take] at HF
  clear hs1 ho1 HT
  go_wp2_with (at_builtin; refine wpList_append_sls rfl (.const (.slice none 0 0)) (.tmp 10) 29 rfl 5 j5 _ 1 1 Try.underlying29 si sz0 sz1 sz2 rfl (by decide) rfl (Sl.nil _ _ _) rfl HF.out (by intro u hu; obtain ⟨c, _, rfl⟩ := List.mem_map.1 hu; rfl) (by have := HN.out; have := HTL.out; unfold maxLen; omega) (by have := HN.out; have := HTL.out; omega) ?_)
  intro v2 w2 hS2 hg2 hat2
  have ho2 : Only [] w w2 := HO1.out.grown hg2 fun k hk => by cases hk
  have HW := Lib.hid (show ∀ g, v2.ownBlock = some g → w.heap.size ≤ g from fun g hg => by
    rcases hat2 with e | e
    · rw [e] at hg; cases hg
    · rw [e] at hg
      injection hg with hg
      have := HO1.out.size
      omega)
  have HK0 := Lib.hid (show Sl w2 5 1 v2 n (byV (f.keptK n 0)) by
    have e : f.keptK n 0 = f.tail.take n := by unfold FD.keptK; simp
    rw [e]
    simpa using hS2)
  obtain ⟨va, vc, hv2, hvc, _⟩ := HK0.out.shape
  subst hv2
  have HO2 := Lib.hid ho2
  clear ho2 hS2 hg2 hat2 HF hvc
  have e8 : ∀ k : Nat, k < n → wrap64 ((k : Int) + 1) = ((k + 1 : Nat) : Int) := fun k hk => wrap_sm (by have := HN.out; have := HTL.out; omega) hk
  have e9 : ∀ k : Nat, k < n → wrap64 ((f.lasts.length : Int) + (k : Int)) = ((f.lasts.length + k : Nat) : Int) := fun k hk => by
    have h1 := HN.out
    have h2 := HTL.out
    have h3 := HBL.out.1
    have h4 := HBL.out.2.2
    rw [wrap_d (by omega)]
    omega
  have HE8 := Lib.hid e8
  have HE9 := Lib.hid e9
  clear e8 e9
  obtain ⟨la, lc, hlv, _, _⟩ := H.out.l.shape
  subst hlv
  go_wp2
  go_loopw [6] (fun z wr => ∃ k : Nat, z = .int .i64 k ∧ Hid (k ≤ f.bad n) ∧ Hid (Sl wr 5 1 (.slice va n vc) n (byV (f.keptK n k))) ∧ Hid (Only [] w wr)) (fun z _ => n - (intOf z).toNat)
  case atStart => exact ⟨0, rfl, Lib.hid (Nat.zero_le _), HK0, HO2⟩
  case round =>
    obtain ⟨k, rfl, HKB, HS, HO⟩ := hrel
    have HFM := Lib.hid (H.out.keep (HO.out.block i H.out.blk.lt (by simp)) (fun g hg => HO.out.block g (H.out.b.lt g hg) (by simp)) (fun g hg => HO.out.block g (H.out.l.lt g hg) (by simp)))
    have HKN := Lib.hid (show k ≤ n from Nat.le_trans HKB.out (Nat.min_le_left _ _))
    have x1 := HFM.out.blk.cell 1
    have x2 := HFM.out.blk.cell 2
    have xl := HFM.out.blk.lt
    simp at x1 x2
    by_cases hkn : k < n
    case neg =>
      have hkz : ¬ (k : Int) < (n : Int) := nlt_z hkn
      have HE := Lib.hid (bad_n HKB.out hkn)
      clear hkn
      go_upto_region 3 with fail
      refine Lex.wp_region_text (by kernel_rfl) (by kernel_rfl) ?_
      go_wp2_with fail
      refine Lex.sq_done (by rfl) ?_
      go_wp2
      refine bodyPost_ret (results_tmp rfl _ _ _) rfl ⟨_, rfl, ?_, HO.out.drew, ?_⟩
      · have := HS.out.drew
        rw [HE.out] at this
        exact this
      · exact HW.out
    have hkz : (k : Int) < (n : Int) := lt_z hkn
    have e9 := HE9.out k hkn
    have e8 := HE8.out k hkn
    obtain ⟨M, hM⟩ : ∃ M, f.lasts.length + k = M := ⟨_, rfl⟩
    rw [hM] at e9
    by_cases hm : M < f.marked
    case neg =>
      have hmz : ¬ (M : Int) < (f.marked : Int) := nlt_z hm
      have HE := Lib.hid (bad_m HKB.out hM hm)
      clear hkn hm e8 hM
      go_upto_region 3 with fail
      refine Lex.wp_region_text (by kernel_rfl) (by kernel_rfl) ?_
      go_wp2_with fail
      refine Lex.sq_done (by rfl) ?_
      go_wp2
      refine bodyPost_ret (results_tmp rfl _ _ _) rfl ⟨_, rfl, ?_, HO.out.drew, ?_⟩
      · have := HS.out.drew
        rw [HE.out] at this
        exact this
      · exact HW.out
    have hmz : (M : Int) < (f.marked : Int) := lt_z hm
    have HKB2 := Lib.hid (bad_k hkn hM hm)
    have HMS := Lib.hid (meas (M := n) hkn)
    obtain ⟨g, o, c', hv, hgl, _⟩ := HS.out.form (Nat.lt_of_le_of_lt (Nat.zero_le k) hkn)
    injection hv with hva hvl hvc
    subst hva
    subst hvc
    have hbk := Go.Proofs.Ythekilgolelomaa.Sl.blk HS.out (g := g) rfl
    obtain ⟨cur, hcur⟩ := hbk
    obtain ⟨u0, y0⟩ : ∃ u0, wr.cell? ⟨g, o + k, none⟩ = some u0 := by
      have y := HS.out.cells_ k ((byV (f.keptK n k))[k]'(kept_at HS.out.len hkn)) (by simp)
      rw [Addr.add_lit] at y
      exact ⟨_, y⟩
    have yf := hcur.frozen
    have HS2 := Lib.hid (show Sl (wr.setCell ⟨g, o + k, none⟩ (.int .u8 0)) 5 1 (.slice (some ⟨g, o, none⟩) n vc) n (byV (f.keptK n (k + 1))) by
      have h1 := Sl.set1 HS.out hkn (.int .u8 0)
      rw [show (Value.int .u8 0) = .int .u8 ((0 : UInt8).toNat : Int) from rfl, byV_set, keptK_set f HN.out hkn] at h1
      exact h1)
    have HO2' := Lib.hid (show Only [] w (wr.setCell ⟨g, o + k, none⟩ (.int .u8 0)) from HO.out.setCell (.inr (HW.out g rfl)) _)
    clear hkn hm hvl hcur hM
    go_upto_region 3 with fail
    refine Lex.wp_region_text (by kernel_rfl) (by kernel_rfl) ?_
    go_wp2_with fail
    refine Lex.sq_done (by rfl) ?_
    go_wp2
    go_roundw
    case measure => rw [e8]; exact HMS.out
    case rel => exact ⟨k + 1, by rw [e8], HKB2, Lib.hid HS2.out.drew, Lib.hid HO2'.out.drew⟩
end
end Go.Proofs.Ythekilgolelomaa
