/-
  Package name: Order of any texts.
-/
import Derived.Test.YtbcckaaleoofhaaOk
import Derived.Test.YtbcckaaleoofhaaOj
import Derived.Test.YtbcckaaleoofhaaShelf
namespace Go.Proofs.Ytbcckaaleoofhaa
open Go.RowKit Go.Fl Go.Sort

theorem only_putRow {α : Type} [Inhabited α] (en : α → Value) (w : World) (b o : Nat) (d : Array α) : Only [b] w (putRow en w b o d) :=
  ⟨rfl, rfl, rfl, by simp [putRow, mapBlock], fun k _ hk => by
    have : b ≠ k := fun e => hk (by simp [e])
    simp [putRow, mapBlock, Array.getElem?_modify, this]⟩
theorem only_grow (w : World) (os : Array Obj) : Only [] w (grow w os) :=
  ⟨rfl, rfl, rfl, by simp [grow], fun k hk _ => by simp [grow, Array.getElem?_append_left hk]⟩
theorem only_ahead (w : World) (n : Nat) : Only [] w (Sort.ahead w n) := ⟨rfl, rfl, rfl, Nat.le_refl _, fun _ _ _ => rfl⟩
theorem holds_of_sl {w : World} {g o c : Nat} {zs : List (List UInt8)} (h : Sl w 9 1 (.slice (some ⟨g, o, none⟩) zs.length c) zs.length (enc zs)) (h0 : 0 < zs.length) : Holds encStr w g o zs.toArray := by
  intro j hj
  have hj2 : j < zs.length := by simpa using hj
  obtain ⟨g', o', c', hv, _, _, _, hc, hf⟩ := h.form h0
  injection hv with e1 _ _
  simp only [Option.some.injEq, Addr.mk.injEq, and_true] at e1
  obtain ⟨rfl, rfl⟩ := e1
  rw [arr_at zs j hj2]
  exact ⟨(hc j (by omega)).trans (enc_at hj2), hf _⟩
/-- A slice of texts that may be written. -/
def SlS (w : World) (v : Value) (l : List (List UInt8)) : Prop :=
  ∃ a cap, v = .slice a l.length cap ∧ l.length ≤ cap ∧ cap ≤ maxLen ∧ (0 < l.length → ∃ g off, a = some ⟨g, off, none⟩ ∧ g < w.heap.size ∧ Holds encStr w g off l.toArray)
theorem SlS.strs {w : World} {v : Value} {l : List (List UInt8)} (h : SlS w v l) : Strs w v l := by
  obtain ⟨a, cap, hv, h1, h2, h3⟩ := h
  refine ⟨a, cap, hv, h1, h2, fun h0 => ?_⟩
  obtain ⟨g, off, ha, hg, hh⟩ := h3 h0
  refine ⟨g, off, ha, hg, fun i hi => ?_⟩
  have := (hh i (by simpa using hi)).1
  rwa [arr_at l i hi] at this
theorem SlS.of_sl {w : World} {v : Value} {l : List (List UInt8)} (h : Sl w 9 1 v l.length (enc l)) : SlS w v l := by
  obtain ⟨a, cap, hv, h1, h2, h3⟩ := Strs.of_sl h
  refine ⟨a, cap, hv, h1, h2, fun h0 => ?_⟩
  obtain ⟨g, off, ha, hg, _⟩ := h3 h0
  refine ⟨g, off, ha, hg, ?_⟩
  subst ha
  rw [hv] at h
  exact holds_of_sl h h0
theorem SlS.only {w w' : World} {v : Value} {l : List (List UInt8)} {T : List Nat} (h : SlS w v l) (ho : Only T w w') (hT : ∀ g, v.ownBlock = some g → g ∉ T) : SlS w' v l := by
  obtain ⟨a, cap, rfl, h1, h2, h3⟩ := h
  refine ⟨a, cap, rfl, h1, h2, fun h0 => ?_⟩
  obtain ⟨g, off, rfl, hg, hh⟩ := h3 h0
  refine ⟨g, off, rfl, Nat.lt_of_lt_of_le hg ho.size, fun i hi => ?_⟩
  have hn := hT g rfl
  exact ⟨(ho.cell (p := ⟨g, off + i, none⟩) hg hn).trans (hh i hi).1, (ho.frozen (p := ⟨g, off + i, none⟩) hg hn).trans (hh i hi).2⟩
/-- The sort and the compaction, one behind the other. -/
theorem sorted_compact {w : World} {g o c n q : Nat} {os : Array Obj} {zs : List (List UInt8)} (hg : g < w.heap.size) (hH : Holds encStr w g o zs.toArray) (h0 : 0 < zs.length) :
    Holds encStr (grow (putRow encStr (Sort.ahead w n) g o (zs.mergeSort leB).toArray) os) g o (zs.mergeSort leB).toArray ∧ Only [g] w (grow (putRow encStr (Sort.ahead w n) g o (zs.mergeSort leB).toArray) os) := by
  have hA : Holds encStr (Sort.ahead w n) g o zs.toArray := hH
  have hP := holds_putRow encStr (Sort.ahead w n) g o zs.toArray (zs.mergeSort leB).toArray hA (by simp)
  refine ⟨holds_grow encStr _ os g o _ (by simp [putRow, mapBlock]; exact hg) hP, ?_⟩
  exact (((only_ahead w n).mono (by simp)).trans (only_putRow encStr _ g o _)).trans ((only_grow _ os).mono (by simp))

set_option maxRecDepth 100000 in
set_option maxHeartbeats 3200000 in
theorem order_gen {v : Value} {ss : List (List UInt8)} (w : World) (h : Strs w v ss) (hl : ss.length ≤ 4096) :
    Calls Try.prog 14 #[v] w fun e w' => ∃ u, e = .returned u ∧ SlS w' u (ordM mayB ss) ∧ (∀ g, u.ownBlock = some g → w.heap.size ≤ g) ∧ Only [] w w' := by
  obtain ⟨j9, si, sz0, sz1, sz2⟩ := info_parts info9
  have H := Lib.hid h
  obtain ⟨a, c, hv, hc, hcm, _⟩ := h
  subst hv
  go_enter Try.func14, Try.ntmps14
  go_wp2
  go_loopw [3, 8] (fun u i wr => ∃ k : Nat, k ≤ ss.length ∧ i = .int .i64 k ∧ Hid (Sl wr 9 1 u ((ss.take k).filter mayB).length (enc ((ss.take k).filter mayB))) ∧ Hid (∀ g, u.ownBlock = some g → w.heap.size ≤ g) ∧ Hid (Only [] w wr)) (fun _ i _ => ss.length - (intOf i).toNat)
  case atStart => exact ⟨0, Nat.zero_le _, rfl, Lib.hid (Sl.nil _ _ _), Lib.hid (fun g hg => by simp [Value.ownBlock] at hg), Lib.hid (Only.refl _ _)⟩
  case round =>
    obtain ⟨k, hk, rfl, HS, HF, HO⟩ := hrel
    by_cases hkl : k < ss.length
    · have hkz : (k : Int) < (ss.length : Int) := by omega
      obtain ⟨a', c', hv', _, _, hcell⟩ := H.out.only HO.out
      obtain ⟨g, off, ha, hg, hcc⟩ := hcell (by omega)
      injection hv' with e1 e2 e3
      subst e1
      subst e3
      subst ha
      clear e2
      obtain ⟨x, hx⟩ : ∃ x, ss[k] = x := ⟨_, rfl⟩
      have cx : wr.cell? ⟨g, off + k, none⟩ = some (.string ⟨x.toArray⟩) := hx ▸ hcc k hkl
      have HM := Lib.hid (may_ok x wr)
      have HT := Lib.hid (show (ss.take (k + 1)).filter mayB = (ss.take k).filter mayB ++ (if mayB x then [x] else []) by
        rw [List.take_succ_eq_append_getElem hkl, List.filter_append, hx]; cases h : mayB x <;> simp [List.filter, h])
      have hlen : ((ss.take k).filter mayB).length ≤ 4096 := by
        have h1 := List.length_filter_le mayB (ss.take k)
        rw [List.length_take] at h1; omega
      clear hcc hcell hx
      cases hm : mayB x with
      | false =>
        rw [hm] at HM
        have HE := Lib.hid (show (ss.take (k + 1)).filter mayB = (ss.take k).filter mayB by rw [HT.out, hm]; simp)
        clear hm
        go_wp2_with fail
        refine HM.out.mono ?_
        clear HM
        rintro e w1 ⟨rfl, rfl⟩
        go_wp2
        go_roundw
        case measure => simp [intOf]; omega
        case rel => exact ⟨k + 1, by omega, by go_num, by rw [HE.out]; exact HS, HF, HO⟩
      | true =>
        rw [hm] at HM
        have HE := Lib.hid (show (ss.take (k + 1)).filter mayB = (ss.take k).filter mayB ++ [x] by rw [HT.out, hm]; simp)
        clear hm HT
        go_wp2_with fail
        refine HM.out.mono ?_
        clear HM
        rintro e w1 ⟨rfl, rfl⟩
        go_wp2_with (at_builtin; refine wpList_append_one (news := [.string ⟨x.toArray⟩]) rfl (.tmp 14) (.tmp 16) 22 rfl 9 j9 _ 1 16 Try.underlying22 si sz0 sz1 sz2 rfl (by decide) rfl (HS.out.alloc _) rfl (Blk.new _ _ _) rfl (by simp [Value.oneCell']) (by unfold maxLen; omega) (by omega) ?_)
        intro v2 w2 hS2 hg2 hat2
        have HS2 : Hid (Sl w2 9 1 v2 ((ss.take (k + 1)).filter mayB).length (enc ((ss.take (k + 1)).filter mayB))) := Lib.hid (by rw [HE.out, enc_append, List.length_append]; exact hS2)
        have HF2 := Lib.hid (own_step (w2 := w1) HF.out hat2 HO.out.size (by simp))
        have HO2 := Lib.hid ((HO.out.alloc (.cells #[.string ⟨x.toArray⟩] 9)).grown hg2 (fun k hk => .inr (HF.out k hk)))
        clear hS2 hg2 hat2
        go_wp2
        go_roundw
        case measure => simp [intOf]; omega
        case rel => exact ⟨k + 1, by omega, by go_num, HS2, HF2, HO2⟩
    · obtain rfl : k = ss.length := by omega
      rw [List.take_length] at HS
      have HORD := Lib.hid (ord_eq mayB ss)
      obtain ⟨zs, hz⟩ : ∃ zs, ss.filter mayB = zs := ⟨_, rfl⟩
      have hzl : zs.length ≤ 4096 := by rw [← hz]; exact Nat.le_trans (List.length_filter_le _ _) hl
      rw [hz] at HS HORD
      clear hz
      rcases Nat.eq_zero_or_pos zs.length with h0 | h0
      · obtain rfl : zs = [] := List.length_eq_zero_iff.1 h0
        clear h0
        obtain ⟨az, cz, hvz, _, _⟩ := HS.out.shape
        have HN := Lib.hid (show ordM mayB ss = [] by rw [← HORD.out]; simp [Lib.compact, Lib.compactUpTo])
        have HSo := Lib.hid (Try.slices_Sort_string_none az cz wr)
        have HCo := Lib.hid (Try.slices_Compact_string_empty az cz wr)
        have HS3 := Lib.hid (SlS.of_sl HS.out)
        simp only [List.length_nil] at *
        clear HS
        subst hvz
        go_wp2_with fail
        refine HSo.out.mono ?_
        clear HSo
        rintro e w1 ⟨rfl, rfl⟩
        go_wp2_with fail
        refine HCo.out.mono ?_
        clear HCo
        rintro e w1 ⟨rfl, rfl⟩
        go_wp2
        exact bodyPost_ret (results_tmp rfl _ _ _) rfl ⟨.slice az 0 cz, rfl, by rw [HN.out]; exact HS3.out, HF.out, HO.out⟩
      · obtain ⟨g2, o2, c2, hv2, hg2, hc2, hcm2, _, _⟩ := HS.out.form h0
        subst hv2
        have hH := holds_of_sl HS.out h0
        have HSo := Lib.hid (Try.slices_Sort_string g2 o2 c2 zs wr hH hg2 (by omega))
        have HCO := Lib.hid (fun (os : Array Obj) (n : Nat) => sorted_compact (c := 0) (q := 0) (n := n) (os := os) hg2 hH h0)
        have hF2 : w.heap.size ≤ g2 := HF.out g2 rfl
        have hml : (zs.mergeSort leB).length = zs.length := List.length_mergeSort (le := leB) zs
        have HCc := Lib.hid (fun w1 (h1 : Holds encStr w1 g2 o2 (zs.mergeSort leB).toArray) => Try.slices_Compact_string g2 o2 c2 (zs.mergeSort leB) w1 h1 (by omega) (by omega))
        rw [hml] at HCc
        have HML := Lib.hid hml
        have HCM := Lib.hid hcm2
        clear hml hH hcm2
        have HL2 := Lib.hid (show (ordM mayB ss).length ≤ zs.length by rw [← HORD.out, ← HML.out]; exact Lib.compact_length_le _)
        rw [HORD.out] at HCc
        have HCAP := Lib.hid hc2
        go_wp2_with fail
        refine HSo.out.mono ?_
        clear HSo
        rintro e w1 ⟨rfl, n1, os1, hw1⟩
        have HX := Lib.hid (HCO.out os1 n1)
        clear HCO
        change w1 = grow (putRow encStr (Sort.ahead wr n1) g2 o2 (zs.mergeSort leB).toArray) os1 at hw1
        rw [← hw1] at HX
        have HY := Lib.hid (HCc.out w1 HX.out.1)
        clear HCc hw1
        go_wp2_with fail
        refine HY.out.mono ?_
        clear HY
        rintro e w2 ⟨rfl, q2, hw2⟩
        go_wp2
        refine bodyPost_ret (results_tmp rfl _ _ _) rfl ⟨_, rfl, ⟨_, _, rfl, by have := HL2.out; omega, ?_, fun _ => ⟨g2, o2, rfl, ?_, ?_⟩⟩, fun g hg => by simp [Value.ownBlock] at hg; omega, ?_⟩
        · exact HCM.out
        · have : g2 < w1.heap.size := Nat.lt_of_lt_of_le hg2 HX.out.2.size
          simpa [putRow, mapBlock, Sort.ahead] using this
        · have hA : Holds encStr (Sort.ahead w1 q2) g2 o2 (zs.mergeSort leB).toArray := HX.out.1
          have hm := HML.out
          have hl2 := HL2.out
          have hP := holds_putRow encStr (Sort.ahead w1 q2) g2 o2 _ (ordM mayB ss ++ List.replicate (zs.length - (ordM mayB ss).length) []).toArray hA (by simp; omega)
          intro j hj
          have hj2 : j < (ordM mayB ss).length := by simpa using hj
          have h3 := hP j (by simp; omega)
          rw [arr_at _ j (by simp; omega), List.getElem_append_left hj2] at h3
          rw [arr_at _ j hj2]
          exact h3
        · have h3 := (HX.out.2.trans ((only_ahead w1 q2).mono (by simp))).trans (only_putRow encStr (Sort.ahead w1 q2) g2 o2 (ordM mayB ss ++ List.replicate (zs.length - (ordM mayB ss).length) []).toArray)
          exact HO.out.trans' h3 (fun i hi => .inr (by simp at hi; omega))
end Go.Proofs.Ytbcckaaleoofhaa
