/-
  ClockAll: the document's Cancel.
-/
import Derived.Test.YtjnhplgdbdneiaaGb
set_option linter.unusedSimpArgs false
set_option linter.unusedVariables false
namespace Go.Proofs.Ytjnhplgdbdneiaa
open Go.RowKit Go.Fl

theorem tcs_erase (L : List Tm) (k : Nat) : tcs (L.eraseIdx k) = (tcs L).take (k * 2) ++ (tcs L).drop ((k + 1) * 2) := by
  rw [List.eraseIdx_eq_take_drop_succ, tcs_append, tcs_take, tcs_drop]
/-- What the document's Cancel answers, and leaves. -/
def DCanPost (w : World) (q now : Nat) (n : Int) (L : List Tm) (v : Value) (id : Int) (e : Ending) (w' : World) : Prop :=
  (∃ i, i < L.length ∧ (L.getD i (0, 0)).1 = id ∧ e = .returned (iv 0) ∧ ∃ v', DK w' q now n (L.eraseIdx i) v' ∧ GW w q v w' v') ∨ ((∀ x ∈ L, x.1 ≠ id) ∧ e = .returned (iv 6) ∧ w' = w)
/-- One has been taken out. -/
theorem DK.erase {w w3 : World} {q now : Nat} {n : Int} {L : List Tm} {v v3 : Value} {i : Nat} (h : DK w q now n L v) (hi : i < L.length) (hS : Sl w3 70 2 v3 (L.eraseIdx i).length (tcs (L.eraseIdx i)))
    (hg : w.drew.grownBy w3 v.ownBlock) (hat : v3.ownBlock = v.ownBlock ∨ v3.ownBlock = some w.heap.size) :
    Blk w3 q 54 #[fv now, v, iv n] ∧ DK (w3.setCell ⟨q, 1, none⟩ v3) q now n (L.eraseIdx i) v3 ∧ GW w q v (w3.setCell ⟨q, 1, none⟩ v3) v3 := by
  have hb3 : Blk w3 q 54 #[fv now, v, iv n] := (hg.block q h.blk.lt (fun e => h.ne e.symm)).trans h.blk
  have hq : ∀ g, v3.ownBlock = some g → g ≠ q := fun g hg3 => by
    have := h.blk.lt
    rcases hat with e | e
    · intro e2
      subst e2
      rw [e] at hg3
      exact h.ne hg3
    · rw [e] at hg3; injection hg3 with hg3; omega
  refine ⟨hb3, ⟨?_, hS.keep fun g hg3 => Below.heap_setCell w3 _ _ g (hq g hg3), fun x hx => h.le x (List.mem_of_mem_eraseIdx hx)⟩, ⟨?_, fun g hg3 => ?_⟩⟩
  · have := hb3.set_ 1 v3
    have h2 : Blk (w3.setCell ⟨q, 1, none⟩ v3) q 54 #[fv now, v3, iv n] := by simpa using this
    exact h2
  · exact (((Only.refl _ w).drew.grown hg fun k hk => .inl (by simp [hk])).setCell (.inl (by simp)) _)
  · rcases hat with e | e
    · exact .inl (e ▸ hg3)
    · rw [e] at hg3; injection hg3 with hg3; exact .inr (by omega)
set_option maxRecDepth 100000 in
set_option maxHeartbeats 3200000 in
theorem cancel20 (w : World) {q now : Nat} {n : Int} {L : List Tm} {v : Value} (id : Int) (h : DK w q now n L v) (hlen : L.length ≤ 1048576) :
    Calls Try.prog 20 #[cp q, iv id] w (DCanPost w q now n L v id) := by
  obtain ⟨j70, si7, sz70, sz71, sz72⟩ := info_parts info70
  obtain ⟨a, c, hlv, hnc, _⟩ := h.sl.shape
  have x1 := h.blk.cell 1
  have xf := h.blk.frozen
  have xl := h.blk.lt
  simp at x1
  have H := Lib.hid h
  have HLL := Lib.hid hlen
  clear h hlen
  subst hlv
  obtain ⟨N, hN⟩ : ∃ N, N = L.length := ⟨_, rfl⟩
  rw [← hN] at x1 hnc
  have HN := Lib.hid hN
  clear hN
  go_enter Try.func20, Try.ntmps20
  go_wp2
  go_loopw [5] (fun i wr => ∃ k : Nat, i = .int .i64 k ∧ Hid (k ≤ N) ∧ Hid (wr = w) ∧ Hid (∀ j, j < L.length → j < k → (L.getD j (0, 0)).1 ≠ id)) (fun i _ => N - (intOf i).toNat)
  case atStart => exact ⟨0, rfl, Lib.hid (Nat.zero_le _), Lib.hid rfl, Lib.hid (fun j _ h => absurd h (Nat.not_lt_zero _))⟩
  case round =>
    obtain ⟨k, rfl, HK, HW, HX⟩ := hrel
    obtain rfl := HW.out
    by_cases hkl : k < N
    case neg =>
      have hkz : ¬ (k : Int) < (N : Int) := by omega
      have HKE := Lib.hid (show k = L.length by have := HK.out; have := HN.out; omega)
      clear hkl hnc
      go_wp2
      exact bodyPost_ret (results_tmp rfl _ _ _) rfl (.inr ⟨fun x hx => by
        obtain ⟨j, hj, e⟩ := List.mem_iff_getElem.1 hx
        have := HX.out j hj (by have := HKE.out; omega)
        rw [getD_getElem hj, e] at this
        exact this, rfl, rfl⟩)
    have hkz : (k : Int) < (N : Int) := by omega
    have hka : k < L.length := by have := HN.out; omega
    obtain ⟨g, o, c', hv, hfm⟩ := H.out.sl.form (by omega)
    injection hv with hva hvl hvc
    subst hva
    subst hvc
    clear hvl hfm
    obtain ⟨y0, y1⟩ := TSl.at_ H.out.sl hka
    have HKA := Lib.hid hka
    clear hka
    obtain ⟨y, hy⟩ : ∃ y, L.getD k (0, 0) = y := ⟨_, rfl⟩
    have HY := Lib.hid hy
    rw [hy] at y0
    clear hy y1
    by_cases hid : y.1 = id
    · have HID := Lib.hid hid
      rw [hid] at y0
      have HF := Lib.hid (H.out.sl.front (k := k) (cap2 := k) (by have := HKA.out; omega) (Nat.le_refl _) (by have := HKA.out; have := HN.out; omega))
      have HT := Lib.hid (H.out.sl.cut (k := k + 1) (by have := HKA.out; omega))
      have e1 : wrap64 ((k : Int) + 1) = ((k + 1 : Nat) : Int) := wrap_sm (HN.out ▸ HLL.out) hkl
      have hk1 : ((k + 1 : Nat) : Int) ≤ (N : Int) := by omega
      have hkc : (k : Int) ≤ (c : Int) := by omega
      have hNc : (N : Int) ≤ (c : Int) := by omega
      clear hid HX HW
      by_cases hc1 : c = k + 1
      all_goals
        have h5 := HT.out
        simp only [hc1, Addr.add, if_true, if_false, Option.map_some, Nat.sub_self] at h5
        rw [← HN.out] at h5
        have HC5 := Lib.hid h5
        clear h5
        go_wp2
        refine Lex.wp_region_text (by kernel_rfl) (by kernel_rfl) ?_
        go_wp2_with (at_builtin; refine wpList_append_sls (m := N - (k + 1)) (news := (tcs L).drop ((k + 1) * 2)) rfl (.tmp 32) (.tmp 39) 39 rfl 70 j70 _ 2 16 Try.underlying39 si7 sz70 sz71 sz72 rfl (by decide) rfl HF.out.drew rfl HC5.out.drew (fun u hu => tcs_one L u (List.mem_of_mem_drop hu)) (by have := HLL.out; have := HN.out; unfold maxLen; omega) (by have := HLL.out; have := HN.out; omega) ?_)
        intro v3 w3 hS3 hg3 hat3
        have hl3 : (L.eraseIdx k).length = k + (N - (k + 1)) := by rw [List.length_eraseIdx, if_pos HKA.out, ← HN.out]; omega
        have hS4 : Sl w3 70 2 v3 (L.eraseIdx k).length (tcs (L.eraseIdx k)) := by
          rw [tcs_erase, hl3]; exact hS3
        obtain ⟨k1, k2, k3⟩ := H.out.erase HKA.out hS4 hg3 hat3
        have HE := Lib.hid (And.intro k2 k3)
        obtain ⟨a3, c3, hv3, hsh⟩ := hS4.shape
        clear hsh xf xl x1 k2 k3 hS3 hg3 hat3 hS4 hl3
        subst hv3
        have x1 := k1.cell 1
        have xf := k1.frozen
        have xl := k1.lt
        simp at x1
        clear k1
        go_wp2
        refine Lex.sq_done (by rfl) ?_
        go_wp2
        exact bodyPost_ret (results_tmp rfl _ _ _) rfl (.inl ⟨k, HKA.out, by rw [HY.out]; exact HID.out, rfl, _, HE.out.1, HE.out.2⟩)
    · have HD := Lib.hid hid
      have e1 : wrap64 ((k : Int) + 1) = ((k + 1 : Nat) : Int) := wrap_sm (HN.out ▸ HLL.out) hkl
      have HKL := Lib.hid hkl
      clear hkl hnc
      go_wp2
      go_roundw
      case measure => (try rw [e1]); exact meas (by have := HKL.out; omega)
      case rel => exact ⟨k + 1, by first | rfl | rw [e1], Lib.hid HKL.out, by first | exact Lib.hid rfl | exact Lib.hid trivial, Lib.hid (fun j h hj => by
          rcases Nat.lt_succ_iff_lt_or_eq.1 hj with hj | hj
          · exact HX.out j h hj
          · subst hj; rw [HY.out]; exact HD.out)⟩
end Go.Proofs.Ytjnhplgdbdneiaa
