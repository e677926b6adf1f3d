/-
  Bytes lent, and back; how far a list is grown.
-/
import Derived.Test.YtffdfegelgpniaaZCd
import Derived.Test.YtffdfegelgpniaaZBg
set_option linter.unusedSimpArgs false
set_option linter.unusedVariables false
set_option linter.unusedSimpArgs false
set_option linter.unusedVariables false
namespace Go.Proofs.Ytffdfegelgpniaa
open Go.RowKit Go.Fl

theorem Sl.set1 {w : World} {e : TypeId} {g off n cap i : Nat} {xs : List Value} (h : Sl w e 1 (.slice (some ⟨g, off, none⟩) n cap) n xs) (hi : i < n) (u : Value) :
    Sl (w.setCell ⟨g, off + i, none⟩ u) e 1 (.slice (some ⟨g, off, none⟩) n cap) n (xs.set i u) := by
  refine ⟨by rw [List.length_set]; exact h.1, ?_⟩
  rcases h.2 with ⟨hv, _⟩ | ⟨g', off', cap', cur, hv, hh, h1, h2, h3, h4⟩
  · cases hv
  · injection hv with e1 _ e3
    injection e1 with e1
    injection e1 with e1 e2
    subst e1
    subst e2
    subst e3
    have hb : Blk w g e cur := hh
    refine .inr ⟨g, off, cap, cur.setIfInBounds (off + i) u, rfl, hb.set_ (off + i) u, h1, h2, by simp; omega, ?_⟩
    rw [Array.toList_setIfInBounds, ← h4, List.drop_set, if_neg (by omega), List.take_set]
    congr 1
    omega
/-- Bytes that were lent: a mark behind them. -/
def LentV (w w' : World) (bs : List Nat) (v : Value) : Prop :=
  ∃ g off cap, v = .slice (some ⟨g, off, none⟩) bs.length cap ∧ w.heap.size ≤ g ∧ Sl w' 5 1 (.slice (some ⟨g, off, none⟩) (bs.length + 2) cap) (bs.length + 2) ((bs ++ [171, 172]).map bv)
set_option maxRecDepth 100000 in
theorem lent_ok {w : World} {F : Nat → Prop} {bs : List Nat} {s : Value} (h : BytesV w F bs s) (hbl : bs.length ≤ 2 ^ 40) : Calls Try.prog 10 #[s] w fun e w' => ∃ v, e = .returned v ∧ LentV w w' bs v ∧ Only [] w w' := by
  obtain ⟨j5, si, sz0, sz1, sz2⟩ := info_parts info5
  have hf : ∃ a cap, s = .slice a bs.length cap := by obtain ⟨a, cap, e, _⟩ := h; exact ⟨a, cap, e⟩
  have HS := Lib.hid h.row
  clear h
  obtain ⟨sa, sc, rfl⟩ := hf
  go_enter Try.func10, Try.ntmps10
  go_wp2_with (at_builtin; refine wpList_append_row (f := bv) rfl (.const (.slice none 0 0)) (.tmp 4) 28 rfl 5 j5 _ 1 Try.underlying28 si sz0 sz1 sz2 rfl rfl (Sl.nil _ _ _) rfl HS.out (fun _ => rfl) (by unfold maxLen; omega) (by omega) ?_)
  intro v5 w5 hS hg hat
  have ho : Only [] w w5 := (Only.refl _ _).grown hg fun k hk => by cases hk
  have HL := Lib.hid (show Sl w5 5 1 v5 bs.length (bs.map bv) by simpa using hS)
  have HW := Lib.hid (show ∀ g, v5.ownBlock = some g → w.heap.size ≤ g from fun g hg => by
    rcases hat with e | e
    · rw [e] at hg; cases hg
    · rw [e] at hg; injection hg with hg; omega)
  have HO := Lib.hid ho
  clear hS hg hat ho
  go_wp2_with (at_builtin; refine wpList_append_many (m := 2) (news := [bv 171, bv 172]) rfl (.tmp 6) (.tmp 7) 28 rfl 5 j5 _ 1 1 Try.underlying28 si sz0 sz1 sz2 rfl (by decide) rfl (HL.out.alloc _) rfl (Blk.new _ _ _) rfl (by simp [Value.oneCell']) (by unfold maxLen; omega) (by omega) ?_)
  intro v8 w8 hS hg hat
  have ho : Only [] w w8 := (HO.out.alloc _).grown hg fun k hk => .inr (HW.out k hk)
  have hsl : Sl w8 5 1 v8 (bs.length + 2) ((bs ++ [171, 172]).map bv) := by simpa using hS
  obtain ⟨g8, off8, cap8, rfl, _, hc8, _, _, _⟩ := hsl.form (by omega)
  have HSL := Lib.hid hsl
  have HW8 := Lib.hid (show w.heap.size ≤ g8 by
    rcases hat with e | e
    · exact HW.out g8 (by rw [← e]; rfl)
    · injection e with e
      have := HO.out.size
      simp at e
      omega)
  have HO8 := Lib.hid ho
  have hcz : (bs.length : Int) ≤ (cap8 : Int) := by omega
  have hcn : bs.length ≤ cap8 := by omega
  clear hS hg hat ho hsl
  go_wp2
  exact bodyPost_ret (results_tmp rfl _ _ _) rfl ⟨_, rfl, ⟨g8, off8, cap8, rfl, HW8.out, HSL.out⟩, HO8.out⟩
theorem LentV.bytes {w w' : World} {bs : List Nat} {v : Value} (h : LentV w w' bs v) (hb : ∀ c ∈ bs, c < 256) : BytesV w' (w.heap.size ≤ ·) bs v := by
  obtain ⟨g, off, cap, rfl, hg, hs⟩ := h
  have h1 := BytesV.take (q := bs.length) (bytes_of_sl hs (fun c hc => by
    rcases List.mem_append.1 hc with hc | hc
    · exact hb c hc
    · simp at hc; omega)) (by simp)
  rw [List.take_left] at h1
  exact h1.keep (Nat.le_refl _) (fun _ _ _ => rfl) fun g' hg' _ => by
    simp [Value.ownBlock] at hg'
    omega
set_option maxRecDepth 100000 in
theorem room_ok (w : World) (n c : Nat) (hn : n ≤ 1099511627776) : Calls Try.prog 41 #[iv n, iv c] w fun e w' => e = .returned (iv (min c (n + 5000) : Nat)) ∧ w' = w := by
  have hw : wrap64 ((n : Int) + 5000) = (n : Int) + 5000 := by unfold wrap64; omega
  by_cases h : c ≤ n + 5000
  · have hz : (c : Int) ≤ (n : Int) + 5000 := by omega
    rw [Nat.min_eq_left h]
    go_enter Try.func41, Try.ntmps41
    go_wp2
    all_goals first | exact bodyPost_ret (results_tmp rfl _ _ _) rfl ⟨rfl, rfl⟩ | (exfalso; omega)
  · have hz : ¬ (c : Int) ≤ (n : Int) + 5000 := by omega
    rw [Nat.min_eq_right (by omega)]
    go_enter Try.func41, Try.ntmps41
    go_wp2
    all_goals first | exact bodyPost_ret (results_tmp rfl _ _ _) rfl ⟨rfl, rfl⟩ | (exfalso; omega)
set_option maxRecDepth 100000 in
set_option maxHeartbeats 3200000 in
theorem back2_ok {w0 w : World} {F : Nat → Prop} {bs : List Nat} {s v : Value} (hl : LentV w0 w bs v) (hb : BytesV w F bs s) (hF : ∀ g, F g → g < w0.heap.size) (hbl : bs.length ≤ 2 ^ 40) :
    Calls Try.prog 14 #[v, s] w fun e w' => e = .returned (.bool true) ∧ ∃ g, w0.heap.size ≤ g ∧ (∃ cs, Blk w g 5 cs) ∧ Only [g] w w' := by
  obtain ⟨g, off, cap, rfl, hg, hs⟩ := hl
  have hf : ∃ a cap, s = .slice a bs.length cap := by obtain ⟨a, cap, e, _⟩ := hb; exact ⟨a, cap, e⟩
  have HBV := Lib.hid hb
  have HBB := Lib.hid (show ∀ c ∈ bs, c < 256 by obtain ⟨_, _, _, _, _, hb, _⟩ := hb; exact hb)
  clear hb
  obtain ⟨sa, sc, rfl⟩ := hf
  have HS := Lib.hid hs
  have HBK := Lib.hid (show ∃ cs, Blk w g 5 cs by
    rcases hs.2 with ⟨hv, _⟩ | ⟨g', off', cap', cur, hv, hh, _⟩
    · cases hv
    · injection hv with e1 _ e3
      injection e1 with e1
      injection e1 with e1 e2
      subst e1
      exact ⟨cur, hh⟩)
  obtain ⟨g', off', cap', e1, _, hc, _, hcell, _⟩ := hs.form (by omega)
  injection e1 with e1 _ e3
  injection e1 with e1
  injection e1 with e1 e2
  subst e1
  subst e2
  subst e3
  have y0 : w.cell? ⟨g, off + bs.length, none⟩ = some (bv 171) := by
    rw [hcell bs.length (by omega)]
    simp
  have y1 : w.cell? ⟨g, off + (bs.length + 1), none⟩ = some (bv 172) := by
    rw [hcell (bs.length + 1) (by omega)]
    simp
  have y2 := y1
  rw [← Nat.add_assoc] at y2
  have hcz : (bs.length : Int) + 2 ≤ (cap : Int) := by omega
  have hcm : (0 : Int) ≤ (bs.length : Int) + 2 := by omega
  clear hs hcell
  go_enter Try.func14, Try.ntmps14
  go_wp2
  go_loopw [5, 6] (fun ok z wr => ∃ (k : Nat) (ys : List Value), k ≤ bs.length ∧ z = .int .i64 k ∧ ok = .bool true ∧ Hid (Sl wr 5 1 (.slice (some ⟨g, off, none⟩) (bs.length + 2) cap) (bs.length + 2) ys) ∧ Hid (∀ j (h : j < bs.length), k ≤ j → ys[j]? = some (bv bs[j])) ∧ Hid (Only [g] w wr)) (fun _ z _ => bs.length - (intOf z).toNat)
  case atStart => exact ⟨0, _, Nat.zero_le _, rfl, rfl, HS, Lib.hid (fun j h _ => by rw [List.getElem?_map, List.getElem?_append_left h, List.getElem?_eq_getElem h]; rfl), Lib.hid (Only.refl _ _)⟩
  case round =>
    obtain ⟨k, ys, hk, rfl, rfl, HSr, HY, HO⟩ := hrel
    by_cases hkl : k < bs.length
    · have hkz : (k : Int) < (bs.length : Int) := by omega
      have hkz2 : (k : Int) < (bs.length : Int) + 2 := by omega
      obtain ⟨_, _, _, e1, _, _, _, hcell, hfr⟩ := HSr.out.form (by omega)
      injection e1 with e1 _ e3
      injection e1 with e1
      injection e1 with e1 e2
      subst e1
      subst e2
      subst e3
      have z0 : wr.cell? ⟨g, off + k, none⟩ = some (bv bs[k]) := (hcell k (by omega)).trans (HY.out k hkl (Nat.le_refl _))
      have zf := hfr (off + k)
      obtain ⟨sa', sc', es, _, _, _, hcb⟩ := HBV.out
      injection es with e1 _ e3
      subst e1
      subst e3
      obtain ⟨gb, ob, rfl, hgb, hFb, hcc⟩ := hcb (by omega)
      have hgg : gb ≠ g := fun e => by have := hF gb hFb; omega
      have z1 := (HO.out.cell (p := ⟨gb, ob + k, none⟩) hgb (by simp; omega)).trans (hcc k hkl)
      have hcb2 := HBB.out _ (List.getElem_mem hkl)
      have HN := Lib.hid (fun (u : Value) => Sl.set1 (i := k) HSr.out (by omega) u)
      have hyl : ys.length = bs.length + 2 := by have := HSr.out.len; omega
      clear hcell hfr hcb hcc
      generalize hck : bs[k] = c at *
      have hcc2 : ((c : Int) == (c : Int)) = true := by simp
      clear y0 y1 y2
      go_wp2
      refine Lex.wp_region_text (by kernel_rfl) (by kernel_rfl) ?_
      go_wp2
      refine Lex.sq_done (by rfl) ?_
      go_wp2
      go_roundw
      case measure => simp [intOf]; omega
      case rel => exact ⟨k + 1, _, by omega, by go_num, rfl, Lib.hid (HN.out _).drew, Lib.hid (fun j h hj => by rw [List.getElem?_set_ne (by omega)]; exact HY.out j h (by omega)), Lib.hid (HO.out.setCell (.inl (by simp)) _).drew⟩
    · obtain rfl : k = bs.length := by omega
      go_wp2
      exact bodyPost_ret (results_tmp rfl _ _ _) rfl ⟨rfl, g, hg, HBK.out, HO.out⟩
end Go.Proofs.Ytffdfegelgpniaa
