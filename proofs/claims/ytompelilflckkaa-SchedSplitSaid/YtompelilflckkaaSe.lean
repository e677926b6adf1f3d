/-
  The scheduler: who is ready; a panic caught; a lock let go.
-/
import Derived.Test.YtompelilflckkaaSd
import Derived.Test.YtompelilflckkaaCuts
import Derived.LoopN
namespace Go.Proofs.Ytompelilflckkaa
open Go.RowKit Go.Fl

theorem info_parts {t : TypeId} {z : Value} {n b : Nat} (h : (Try.prog.info? t).map (fun i => (i.zero, i.size, i.bytes)) = some (some z, n, b)) : ∃ i, Try.prog.info? t = some i ∧ i.zero = some z ∧ i.size = n ∧ i.bytes = b := by
  cases hi : Try.prog.info? t with
  | none => rw [hi] at h; cases h
  | some i => rw [hi] at h; simp at h; exact ⟨i, rfl, h.1, h.2.1, h.2.2⟩
theorem info3 : (Try.prog.info? 3).map (fun i => (i.zero, i.size, i.bytes)) = some (some (iv 0), 1, 8) := by kernel_rfl
theorem info2 : (Try.prog.info? 2).map (fun i => (i.zero, i.size, i.bytes)) = some (some (iv 0), 1, 8) := by kernel_rfl
theorem info39 : (Try.prog.info? 39).map (fun i => (i.zero, i.size, i.bytes)) = some (some (.agg #[iv 0, iv 0]), 2, 16) := by kernel_rfl
theorem own_fresh {W : World} {m : Nat} {u v2 : Value} (hF : ∀ g, u.ownBlock = some g → W.heap.size ≤ g) (hat : v2.ownBlock = u.ownBlock ∨ v2.ownBlock = some m) (hs : W.heap.size ≤ m) : ∀ g, v2.ownBlock = some g → W.heap.size ≤ g := fun g hg => by
  rcases hat with h | h
  · exact hF g (h ▸ hg)
  · rw [h] at hg; injection hg with hg; omega
section
variable {w : World} {base r : Nat} {f : Nat → Value} {b : Nat → Nat} {s : S}
theorem ptrs_at {n i : Nat} (h : i < n) : (ptrs b n)[i]? = some (.pointer (some ⟨b i, 0, none⟩)) := by simp [ptrs, h]
theorem nats_append (x y : List Nat) : nats (x ++ y) = nats x ++ nats y := by simp [nats]
theorem ints_append (x y : List Int) : ints (x ++ y) = ints x ++ ints y := by simp [ints]
/-- The task's pointer, among those. -/
theorem RS.cTask (h : RS w base r f b s) {i : Nat} (hi : i < s.n) : ∃ g o c, f 0 = .slice (some ⟨g, o, none⟩) s.n c ∧ g < w.heap.size ∧ w.cell? ⟨g, o + i, none⟩ = some (.pointer (some ⟨b i, 0, none⟩)) := by
  obtain ⟨g, o, c, hv, hg, _, _, hc, _⟩ := h.sTasks.2.form (by omega)
  exact ⟨g, o, c, hv, hg, (hc i (by omega)).trans (ptrs_at hi)⟩
end
def readyTo (s : S) (k : Nat) : List Nat := (List.range k).filter fun i => decide (how s (s.ts i) = 3)
theorem readyTo_succ (s : S) (k : Nat) : readyTo s (k + 1) = readyTo s k ++ (if how s (s.ts k) = 3 then [k] else []) := by
  unfold readyTo
  rw [List.range_succ, List.filter_append]
  by_cases h : how s (s.ts k) = 3 <;> simp [h]
theorem readyTo_len (s : S) (k : Nat) : (readyTo s k).length ≤ k := by
  have := List.length_filter_le (fun i => decide (how s (s.ts i) = 3)) (List.range k)
  rwa [List.length_range] at this

set_option maxRecDepth 100000 in
set_option maxHeartbeats 3200000 in
theorem ready_ok {w : World} {base r : Nat} {f : Nat → Value} {b : Nat → Nat} {s : S} {L : Nat} (h : RS w base r f b s) (hw : WF s L) (hL : L ≤ 65536) :
    Calls Try.prog 33 #[.pointer (some ⟨r, 0, none⟩)] w fun e w' => ∃ u, e = .returned u ∧ Sl w' 3 1 u (ready s).length (nats (ready s)) ∧ (∀ g, u.ownBlock = some g → w.heap.size ≤ g) ∧ Only [] w w' := by
  obtain ⟨j3, si, sz0, sz1, sz2⟩ := info_parts info3
  have hn := hw.n
  obtain ⟨c0, hS⟩ := h.sTasks
  obtain ⟨ta, tc, htv, _, _⟩ := hS.shape
  have HT := Lib.hid htv
  rw [htv] at c0
  have hlt := h.lt
  have H := Lib.hid h
  clear h hS htv
  go_enter Try.func33, Try.ntmps33
  go_wp2
  go_loopw [3, 11] (fun u z wr => ∃ k : Nat, k ≤ s.n ∧ z = .int .i64 k ∧ Hid (Sl wr 3 1 u (readyTo s k).length (nats (readyTo s k))) ∧ Hid (∀ g, u.ownBlock = some g → w.heap.size ≤ g) ∧ Hid (Only [] w wr)) (fun _ z _ => s.n - (intOf z).toNat)
  case atStart => exact ⟨0, Nat.zero_le _, rfl, Lib.hid (Sl.nil _ _ _), Lib.hid (fun g hg => by simp [Value.ownBlock] at hg), Lib.hid (Only.refl _ _)⟩
  case round =>
    obtain ⟨k, hk, rfl, HS, HF, HO⟩ := hrel
    by_cases hkl : k < s.n
    · have hkz : (k : Int) < (s.n : Int) := by omega
      have H1 := Lib.hid (H.out.only0 HO.out).1
      obtain ⟨g, o, c, hv, hg, hc⟩ := H1.out.cTask hkl
      rw [HT.out] at hv
      injection hv with e1 _ e3
      subst e1
      subst e3
      have HA := Lib.hid (how_ok H1.out hw hL hkl)
      have HLn := readyTo_len s k
      by_cases hr : how s (s.ts k) = 3
      · have HE := Lib.hid (show readyTo s (k + 1) = readyTo s k ++ [k] by rw [readyTo_succ, if_pos hr])
        rw [hr] at HA
        go_wp2_with fail
        refine HA.out.mono ?_
        clear HA hc
        rintro e w1 ⟨rfl, hO⟩
        have HO1 := Lib.hid (HO.out.trans hO)
        have HS1 := Lib.hid (HS.out.only hO (by simp))
        clear hO
        go_wp2_with (at_builtin; refine wpList_append_one (news := [.int .i64 (k : Nat)]) rfl (.tmp 20) (.tmp 22) 23 rfl 3 j3 _ 1 8 Try.underlying23 si sz0 sz1 sz2 rfl (by decide) rfl (HS1.out.alloc _) rfl (Blk.new _ _ _) rfl (by simp [Value.oneCell']) (by unfold maxLen; omega) (by omega) ?_)
        intro v2 w2 hS2 hg2 hat2
        have HS2 : Hid (Sl w2 3 1 v2 (readyTo s (k + 1)).length (nats (readyTo s (k + 1)))) := Lib.hid (by rw [HE.out, nats_append, List.length_append]; exact hS2)
        have HF2 := Lib.hid (own_fresh HF.out (hat2.imp (fun e => e) (fun e => by first | exact e | (rw [e]; simp))) (show w.heap.size ≤ w1.heap.size + 1 by have := HO1.out.size; omega))
        have HO2 := Lib.hid ((HO1.out.alloc (.cells #[.int .i64 (k : Nat)] 3)).grown hg2 (fun k hk => .inr (HF.out k hk)))
        clear hS2 hg2 hat2
        go_wp2
        go_roundw
        case measure => simp [intOf]; omega
        case rel => exact ⟨k + 1, by omega, by go_num, HS2, HF2, HO2⟩
      · have HE := Lib.hid (show readyTo s (k + 1) = readyTo s k by rw [readyTo_succ, if_neg hr, List.append_nil])
        have hz : (how s (s.ts k) == 3) = false := by simpa using hr
        go_wp2_with fail
        refine HA.out.mono ?_
        clear HA hc
        rintro e w1 ⟨rfl, hO⟩
        have HO1 := Lib.hid (HO.out.trans hO)
        have HS1 := Lib.hid (HS.out.only hO (by simp))
        clear hO
        go_wp2
        go_roundw
        case measure => simp [intOf]; omega
        case rel => exact ⟨k + 1, by omega, by go_num, by rw [HE.out]; exact HS1, HF, HO1⟩
    · obtain rfl : k = s.n := by omega
      go_wp2
      go_ret
      exact ⟨_, rfl, HS.out, HF.out, HO.out⟩
end Go.Proofs.Ytompelilflckkaa
