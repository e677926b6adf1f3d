/-
  The document's own run: its beginning.
-/
import Derived.Test.YtompelilflckkaaMe
import Derived.Test.YtompelilflckkaaMt
import Derived.Test.YtompelilflckkaaMm
import Derived.Test.YtompelilflckkaaMa
set_option linter.unusedSimpArgs false
set_option linter.unusedVariables false
namespace Go.Proofs.Ytompelilflckkaa
open Go.RowKit Go.Fl

theorem info68 : (Try.prog.info? 68).map (fun i => (i.zero, i.size, i.bytes)) = some (some (.agg #[.slice none 0 0, iv 0, iv 0, iv 0, iv 0, iv 0]), 6, 64) := by kernel_rfl
def cells2 (room : Int) : Array Value := #[.slice none 0 0, iv 0, iv 0, iv 0, iv 0, .slice none 0 0, .slice none 0 0, .slice none 0 0, .slice none 0 0, .slice none 0 0, .slice none 0 0, .slice none 0 0, .slice none 0 0,
  iv 0, iv 0, iv 0, iv 0, iv 0, iv 0, iv 0, iv 0, iv room, iv (-1)]
def f2 (room : Int) : Nat → Value := fun k => (cells2 room).getD k .nilIface
def spec3 (k : Nat) (xs : List Value) (s : S) : Nat → FS := fun j => if j = 0 then .row 68 6 k xs else spec2 (.slice none 0 0) s j
def hw0 (m : Nat) : Int := if m = 0 then 1 else 0
def flatR (vs : Nat → Value) (acts : Nat → List A) (k : Nat) : List Value := (List.range k).flatMap fun j => [vs j, iv 0, iv 0, iv (-1), iv (hw0 (acts j).length), iv 0]
theorem flatR_succ (vs : Nat → Value) (acts : Nat → List A) (k : Nat) : flatR vs acts (k + 1) = flatR vs acts k ++ [vs k, iv 0, iv 0, iv (-1), iv (hw0 (acts k).length), iv 0] := by
  unfold flatR
  rw [List.range_succ, List.flatMap_append]
  simp
theorem flatR_len (vs : Nat → Value) (acts : Nat → List A) (k : Nat) : (flatR vs acts k).length = k * 6 := by
  induction k with
  | zero => rfl
  | succ k ih => rw [flatR_succ, List.length_append, ih]; simp; omega
theorem flatR_at (vs : Nat → Value) (acts : Nat → List A) {k i : Nat} (h : i < k) : (flatR vs acts k)[i * 6]? = some (vs i) ∧ (flatR vs acts k)[i * 6 + 1]? = some (iv 0) ∧ (flatR vs acts k)[i * 6 + 2]? = some (iv 0) ∧ (flatR vs acts k)[i * 6 + 3]? = some (iv (-1)) ∧
    (flatR vs acts k)[i * 6 + 4]? = some (iv (hw0 (acts i).length)) ∧ (flatR vs acts k)[i * 6 + 5]? = some (iv 0) := by
  induction k with
  | zero => omega
  | succ k ih =>
    have hl := flatR_len vs acts k
    rw [flatR_succ]
    by_cases e : i < k
    · obtain ⟨a0, a1, a2, a3, a4, a5⟩ := ih e
      rw [List.getElem?_append_left (by omega), List.getElem?_append_left (by omega), List.getElem?_append_left (by omega), List.getElem?_append_left (by omega), List.getElem?_append_left (by omega), List.getElem?_append_left (by omega)]
      exact ⟨a0, a1, a2, a3, a4, a5⟩
    · obtain rfl : i = k := by omega
      rw [List.getElem?_append_right (by omega), List.getElem?_append_right (by omega), List.getElem?_append_right (by omega), List.getElem?_append_right (by omega), List.getElem?_append_right (by omega), List.getElem?_append_right (by omega), hl,
        Nat.sub_self, Nat.add_sub_cancel_left, Nat.add_sub_cancel_left, Nat.add_sub_cancel_left, Nat.add_sub_cancel_left, Nat.add_sub_cancel_left]
      exact ⟨rfl, rfl, rfl, rfl, rfl, rfl⟩
theorem spec3_elem {k : Nat} {xs : List Value} {s : S} {j e : Nat} (h : (spec3 k xs s j).elem = some e) : e = 68 ∨ e = 3 ∨ e = 2 := by
  unfold spec3 at h
  by_cases h0 : j = 0
  · rw [if_pos h0] at h; injection h with h; omega
  · rw [if_neg h0] at h
    have := spec2_elem h
    omega
theorem rec0 {w : World} {base r : Nat} {room : Int} (h : Blk w r 66 (cells2 room)) (hr : base ≤ r) : Rec w base r 66 23 (f2 room) (spec3 0 [] (begin_ [] room)) := by
  have hc : ∀ k, k < 23 → f2 room k = match spec3 0 [] (begin_ [] room) k with | .val u => u | .row _ _ _ _ => .slice none 0 0 := fun k hk => by
    have : k = 0 ∨ k = 1 ∨ k = 2 ∨ k = 3 ∨ k = 4 ∨ k = 5 ∨ k = 6 ∨ k = 7 ∨ k = 8 ∨ k = 9 ∨ k = 10 ∨ k = 11 ∨ k = 12 ∨ k = 13 ∨ k = 14 ∨ k = 15 ∨ k = 16 ∨ k = 17 ∨ k = 18 ∨ k = 19 ∨ k = 20 ∨ k = 21 ∨ k = 22 := by omega
    rcases this with rfl | rfl | rfl | rfl | rfl | rfl | rfl | rfl | rfl | rfl | rfl | rfl | rfl | rfl | rfl | rfl | rfl | rfl | rfl | rfl | rfl | rfl | rfl <;> rfl
  have hz : ∀ k, k < 23 → ∀ e size n xs, spec3 0 [] (begin_ [] room) k = .row e size n xs → n = 0 ∧ xs = [] := fun k hk e size n xs he => by
    have : k = 0 ∨ k = 1 ∨ k = 2 ∨ k = 3 ∨ k = 4 ∨ k = 5 ∨ k = 6 ∨ k = 7 ∨ k = 8 ∨ k = 9 ∨ k = 10 ∨ k = 11 ∨ k = 12 ∨ k = 13 ∨ k = 14 ∨ k = 15 ∨ k = 16 ∨ k = 17 ∨ k = 18 ∨ k = 19 ∨ k = 20 ∨ k = 21 ∨ k = 22 := by omega
    rcases this with rfl | rfl | rfl | rfl | rfl | rfl | rfl | rfl | rfl | rfl | rfl | rfl | rfl | rfl | rfl | rfl | rfl | rfl | rfl | rfl | rfl | rfl | rfl <;> first | (injection he with _ _ h1 h2; exact ⟨h1.symm, h2.symm⟩) | cases he
  have hown : ∀ k, k < 23 → ∀ g, (spec3 0 [] (begin_ [] room) k).own (f2 room k) ≠ some g := fun k hk g hg => by
    have h1 := hc k hk
    cases hs : spec3 0 [] (begin_ [] room) k with
    | val u => rw [hs] at hg; cases hg
    | row e size n xs => rw [hs] at hg h1; rw [h1] at hg; cases hg
  refine ⟨?_, hr, fun k hk => ?_, fun k hk e => ?_, fun k hk g hg => absurd hg (hown k hk g), fun j k hj hk _ g hg => absurd hg (hown j hj g)⟩
  · have := cellsN_of (cells2 room)
    rw [this] at h
    exact h
  · have h1 := hc k hk
    cases hs : spec3 0 [] (begin_ [] room) k with
    | val u => rw [hs] at h1; exact h1
    | row e size n xs =>
      rw [hs] at h1
      obtain ⟨rfl, rfl⟩ := hz k hk e size n xs hs
      show Sl w e size (f2 room k) 0 []
      rw [h1]
      exact Sl.nil _ _ _
  · have := spec3_elem e; omega
/-- All tasks are there. -/
theorem R2.of_rec {w : World} {base r : Nat} {f : Nat → Value} {vs : Nat → Value} {acts : List (List A)} {room : Int} (h : Rec w base r 66 23 f (spec3 acts.length (flatR vs (fun j => acts.getD j []) acts.length) (begin_ [] room))) (ha : ∀ i, i < acts.length → ActsV base w (vs i) (acts.getD i [])) :
    ∃ g o tv, R2 w base r g o f tv vs (fun j => acts.getD j []) (fun j => ⟨0, 0, -1, hw0 (acts.getD j []).length, 0⟩) (begin_ acts room) := by
  have hS : Sl w 68 6 (f 0) acts.length (flatR vs (fun j => acts.getD j []) acts.length) := h.row (k := 0) (by omega) rfl
  have hsp : ∀ j, j ≠ 0 → spec2 (f 0) (begin_ acts room) j = spec3 acts.length (flatR vs (fun j => acts.getD j []) acts.length) (begin_ [] room) j := fun j hj => by
    unfold spec3
    rw [if_neg hj]
    unfold spec2
    rw [if_neg hj, if_neg hj]
    rfl
  have h0 : spec2 (f 0) (begin_ acts room) 0 = .val (f 0) := rfl
  have hrc : Rec w base r 66 23 f (spec2 (f 0) (begin_ acts room)) := by
    refine ⟨h.blk, h.ge, fun k hk => ?_, fun k hk e => by have := spec2_elem e; omega, fun k hk g hg => ?_, fun j k hj hk hjk g hg hg2 => ?_⟩
    · by_cases e : k = 0
      · subst e; exact rfl
      · rw [hsp k e]; exact h.ok k hk
    · by_cases e : k = 0
      · subst e; cases hg
      · rw [hsp k e] at hg; exact h.own k hk g hg
    · by_cases e : j = 0
      · subst e; cases hg
      · by_cases e2 : k = 0
        · subst e2; cases hg2
        · rw [hsp j e] at hg
          rw [hsp k e2] at hg2
          exact h.dis j k hj hk hjk g hg hg2
  rcases h2 : hS.2 with ⟨hv, hn⟩ | ⟨g, off, cap, cur, hv, hh, hc, hm, hs, ht⟩
  · exact ⟨0, 0, f 0, hrc, ⟨none, 0, by rw [hv]; show _ = Value.slice none acts.length 0; rw [hn], fun h0 => absurd h0 (by show ¬ 0 < acts.length; omega)⟩, fun h0 => absurd h0 (by show ¬ 0 < acts.length; omega), fun h0 => absurd h0 (by show ¬ 0 < acts.length; omega), ha⟩
  · refine ⟨g, off, f 0, hrc, ⟨some ⟨g, off, none⟩, cap, hv, fun _ => rfl⟩, fun h0 => ⟨cur, hh, fun i hi => ?_⟩, fun _ => ?_, ha⟩
    · have hi : i < acts.length := hi
      obtain ⟨a0, a1, a2, a3, a4, a5⟩ := flatR_at vs (fun j => acts.getD j []) hi
      have hat : ∀ q, q < acts.length * 6 → cur[off + q]? = (flatR vs (fun j => acts.getD j []) acts.length)[q]? := fun q hq => by
        rw [← ht, List.getElem?_take, if_pos hq, List.getElem?_drop, Array.getElem?_toList]
      refine ⟨(hat (i * 6) (by omega)).trans a0, ?_, ?_, ?_, ?_, ?_⟩
      · rw [Nat.add_assoc]; exact (hat (i * 6 + 1) (by omega)).trans a1
      · rw [Nat.add_assoc]; exact (hat (i * 6 + 2) (by omega)).trans a2
      · rw [Nat.add_assoc]; exact (hat (i * 6 + 3) (by omega)).trans a3
      · rw [Nat.add_assoc]; exact (hat (i * 6 + 4) (by omega)).trans a4
      · rw [Nat.add_assoc]; exact (hat (i * 6 + 5) (by omega)).trans a5
    · exact h.own 0 (by omega) g (by rw [hv]; rfl)
set_option maxRecDepth 100000 in
set_option maxHeartbeats 6400000 in
theorem begin2_ok {w : World} {tv : Value} {acts : List (List A)} {room : Int} (h : TasksV w.heap.size w tv acts) (hn : acts.length ≤ 16) :
    Calls Try.prog 23 #[tv, iv room] w fun e w' => ∃ r g o f tv2 vs, e = .returned (.pointer (some ⟨r, 0, none⟩)) ∧ R2 w' w.heap.size r g o f tv2 vs (fun j => acts.getD j []) (fun j => ⟨0, 0, -1, hw0 (acts.getD j []).length, 0⟩) (begin_ acts room) ∧ Below w.heap.size w w' := by
  obtain ⟨j68, si, sz0, sz1, sz2⟩ := info_parts info68
  have H := Lib.hid h
  obtain ⟨a, c, hv, hc, hcm, hcell⟩ := h
  subst hv
  obtain ⟨vs, hvs⟩ : ∃ vs : Nat → Value, ∀ j, j < acts.length → ∃ gt ot, a = some ⟨gt, ot, none⟩ ∧ gt < w.heap.size ∧ w.cell? ⟨gt, ot + j, none⟩ = some (vs j) ∧ ActsV w.heap.size w (vs j) (acts.getD j []) := by
    by_cases h0 : 0 < acts.length
    · obtain ⟨gt, ot, ha, _, hg, hh⟩ := hcell h0
      refine ⟨fun j => if hj : j < acts.length then (hh j hj).choose else .nilIface, fun j hj => ⟨gt, ot, ha, hg, ?_⟩⟩
      have := (hh j hj).choose_spec
      simp only [hj, dif_pos]
      refine ⟨this.1, ?_⟩
      rw [List.getD_eq_getElem?_getD, List.getElem?_eq_getElem hj]
      exact this.2
    · exact ⟨fun _ => .nilIface, fun j hj => by omega⟩
  have HVS := Lib.hid hvs
  clear hvs hcell
  go_enter Try.func23, Try.ntmps23
  go_wp2
  have hb0 : Blk (w.alloc (.cells (cells2 room) 66)) w.heap.size 66 (cells2 room) := Blk.new _ _ _
  have hB0 : Below w.heap.size w (w.alloc (.cells (cells2 room) 66)) := Below.of_only ((Only.refl [] w).alloc _) (Nat.le_refl _)
  go_loopw [6] (fun z wr => ∃ (k : Nat) (f : Nat → Value), k ≤ acts.length ∧ z = .int .i64 k ∧ Hid (Rec wr w.heap.size w.heap.size 66 23 f (spec3 k (flatR vs (fun j => acts.getD j []) k) (begin_ [] room))) ∧ Hid (Below w.heap.size w wr)) (fun z _ => acts.length - (intOf z).toNat)
  case atStart => exact ⟨0, f2 room, Nat.zero_le _, rfl, Lib.hid (rec0 hb0 (Nat.le_refl _)), Lib.hid hB0⟩
  case round =>
    obtain ⟨w2, hwo⟩ : ∃ x : World, x = wr := ⟨_, rfl⟩
    subst hwo
    obtain ⟨k, f, hk, rfl, HR, HB⟩ := hrel
    clear hb0 hB0
    by_cases hkl : k < acts.length
    · have hkz : (k : Int) < (acts.length : Int) := by omega
      obtain ⟨gt, ot, ha, hgt, hvk, hA⟩ := HVS.out k hkl
      subst ha
      obtain ⟨va, vc, hva, _, _, _⟩ := id hA
      have cv : w2.cell? ⟨gt, ot + k, none⟩ = some (vs k) := (World.cell?_of_block (w := w) (a := ⟨gt, ot + k, none⟩) (HB.out.block gt hgt)).trans hvk
      rw [hva] at cv
      have hgt2 := Nat.lt_of_lt_of_le hgt HB.out.size
      obtain ⟨m, hm⟩ : ∃ m, m = (acts.getD k []).length := ⟨_, rfl⟩
      rw [← hm] at cv hva
      have HM := Lib.hid hm
      clear hm
      clear hvk hA
      have hne : w2.heap.size ≠ w.heap.size := fun e => by have := HR.out.blk.lt; omega
      have hb3 : Blk (w2.alloc (.cells #[.slice va m vc, iv 0, iv 0, iv (-1), iv 0, iv 0] 68)) w2.heap.size 68 #[.slice va m vc, iv 0, iv 0, iv (-1), iv 0, iv 0] := Blk.new _ _ _
      have hr3 := HR.out.only0 ((Only.refl [] w2).alloc (.cells #[.slice va m vc, iv 0, iv 0, iv (-1), iv 0, iv 0] 68))
      have hB3 : Below w.heap.size w (w2.alloc (.cells #[.slice va m vc, iv 0, iv 0, iv (-1), iv 0, iv 0] 68)) := HB.out.trans (Below.of_only ((Only.refl [] w2).alloc _) HB.out.size)
      have hown : ∀ q, q < 23 → ∀ g, (spec3 k (flatR vs (fun j => acts.getD j []) k) (begin_ [] room) q).own (f q) = some g → g ≠ w2.heap.size := fun q hq g hg e => by
        have := HR.out.own_lt hq hg
        omega
      have HEN : Hid (Calls Try.prog 36 #[.pointer (some ⟨w2.heap.size, 0, none⟩)] (w2.alloc (.cells #[.slice va m vc, iv 0, iv 0, iv (-1), iv 0, iv 0] 68)) fun e w' => e = .returned (.tuple #[]) ∧ Blk w' w2.heap.size 68 #[.slice va m vc, iv 0, iv 0, iv (-1), iv (hw0 m), iv 0] ∧ Rec w' w.heap.size w.heap.size 66 23 f (spec3 k (flatR vs (fun j => acts.getD j []) k) (begin_ [] room)) ∧ Below w.heap.size w w') := Lib.hid (by
        by_cases hm0 : m = 0
        · refine (ends_yes (p := 0) (m := m) (x := 0) hb3 rfl rfl rfl (by omega)).mono fun e w' => ?_
          rintro ⟨rfl, q, rfl⟩
          have ho : Only [w2.heap.size] (w2.alloc (.cells #[.slice va m vc, iv 0, iv 0, iv (-1), iv 0, iv 0] 68)) (((w2.alloc (.cells #[.slice va m vc, iv 0, iv 0, iv (-1), iv 0, iv 0] 68)).drewN q).setCell ⟨w2.heap.size, 0 + 4, none⟩ (iv 1)) := ((Only.refl _ _).drewN q).setCell (.inl (by simp)) _
          refine ⟨rfl, ?_, hr3.keep (ho.block _ hr3.blk.lt (by simpa using fun e => hne e.symm)) (fun q hq g hg => ho.block g (hr3.own_lt hq hg) (by simpa using hown q hq g hg)), hB3.trans ⟨ho.os, ho.tape, ho.output, ho.size, fun j hj => ho.block j (by have := hr3.blk.lt; omega) (by have := HR.out.blk.lt; simp; omega)⟩⟩
          have e1 : hw0 m = 1 := by unfold hw0; rw [if_pos hm0]
          rw [e1]
          exact (hb3.drewN q).set_ 4 (iv 1)
        · refine (ends_no (p := 0) (m := m) (x := 0) hb3 rfl rfl (by omega)).mono fun e w' => ?_
          rintro ⟨rfl, q, rfl⟩
          have e1 : hw0 m = 0 := by unfold hw0; rw [if_neg hm0]
          rw [e1]
          exact ⟨rfl, hb3.drewN q, hr3.only0 ((Only.refl [] _).drewN q), hB3.trans (Below.of_only ((Only.refl [] _).drewN q) (by have := hr3.blk.lt; omega))⟩)
      clear hb3 hr3 hB3 hown
      go_wp2_with fail
      refine HEN.out.mono ?_
      clear HEN
      rintro e w4 ⟨rfl, hb4, hr4, hB4⟩
      obtain ⟨m1, _, m2⟩ := hb4.facts
      have hS4 := hr4.row (k := 0) (by omega) (show spec3 k (flatR vs (fun j => acts.getD j []) k) (begin_ [] room) 0 = .row 68 6 k (flatR vs (fun j => acts.getD j []) k) from rfl)
      obtain ⟨ta, tc, htv, _, _⟩ := hS4.shape
      have c0 := hr4.cell (k := 0) (by omega)
      rw [htv] at c0
      have HS4 : Hid (Sl w4 68 6 (.slice ta k tc) k (flatR vs (fun j => acts.getD j []) k)) := Lib.hid (by rw [← htv]; exact hS4)
      have HTV := Lib.hid htv
      have hlr := hr4.blk.lt
      have hfr := hr4.blk.frozen
      have HR4 := Lib.hid hr4
      have HB4 := Lib.hid hB4
      clear hS4 htv hr4 hB4 hb4 cv
      go_wp2
      refine Lex.wp_region_text (by kernel_rfl) (by kernel_rfl) ?_
      go_wp2_with (at_builtin; refine wpList_append_one (news := [.slice va m vc, iv 0, iv 0, iv (-1), iv (hw0 m), iv 0]) rfl (.tmp 27) (.tmp 29) 60 rfl 68 j68 _ 6 64 Try.underlying60 si sz0 sz1 sz2 rfl (by decide) rfl (HS4.out.alloc _).drew rfl (Blk.new _ _ _).drew rfl (by simp [Value.oneCell']) (by unfold maxLen; omega) (by omega) ?_)
      intro v5 w5 hS5 hg5 hat5
      have hg5 : (w4.alloc (.cells #[.slice va m vc, iv 0, iv 0, iv (-1), iv (hw0 m), iv 0] 68)).drew.grownBy w5 (Value.slice ta k tc).ownBlock := hg5
      have hr5 := HR4.out.only0 ((Only.refl [] w4).alloc (.cells #[.slice va m vc, iv 0, iv 0, iv (-1), iv (hw0 m), iv 0] 68)).drew
      have hS5 : Sl w5 68 6 v5 (k + 1) (flatR vs (fun j => acts.getD j []) (k + 1)) := by
        rw [flatR_succ, hva, ← HM.out]; exact hS5
      obtain ⟨va5, vc5, hv5, _, _⟩ := hS5.shape
      subst hv5
      obtain ⟨p1, p2, p3, p4⟩ := hr5.put (k := 0) (u := .slice va5 (k + 1) vc5) (sp' := spec3 (k + 1) (flatR vs (fun j => acts.getD j []) (k + 1)) (begin_ [] room)) (by omega)
        (by show World.grownBy _ w5 (f 0).ownBlock; rw [HTV.out]; exact hg5) hS5 (fun e => by have := spec3_elem e; omega) (fun g hg => by
          have hg : (Value.slice va5 (k + 1) vc5).ownBlock = some g := hg
          show (f 0).ownBlock = some g ∨ _
          rw [HTV.out]
          rcases hat5 with e | e
          · exact .inl (e ▸ hg)
          · rw [e] at hg; injection hg with hg; right; rw [← hg]; first | exact Nat.le_refl _ | simp) (fun j hj hj0 => by unfold spec3; rw [if_neg hj0, if_neg hj0])
      have HR6 := Lib.hid p1
      have HB6 := Lib.hid ((HB4.out.trans (Below.of_only ((Only.refl [] w4).alloc (.cells #[.slice va m vc, iv 0, iv 0, iv (-1), iv (hw0 m), iv 0] 68)).drew (by have := HR4.out.blk.lt; omega))).trans p2)
      have cc5 := (p4.cell 0).trans (cellsN_get (by omega))
      have hfr5 := p4.frozen
      have hlr5 := p4.lt
      clear p1 p2 p3 p4 hr5 hS5 hg5 hat5 c0 hlr hfr m1 m2
      go_wp2
      refine Lex.sq_done (by rfl) ?_
      go_wp2
      go_roundw
      case measure => simp [intOf]; omega
      case rel => exact ⟨k + 1, _, by omega, by go_num, HR6, HB6⟩
    · obtain rfl : k = acts.length := by omega
      have HA := Lib.hid (show ∀ i, i < acts.length → ActsV w.heap.size w2 (vs i) (acts.getD i []) from fun i hi => by
        obtain ⟨_, _, _, _, _, hA⟩ := HVS.out i hi
        exact hA.below HB.out)
      obtain ⟨g, o, tv2, hR2⟩ := R2.of_rec HR.out HA.out
      have HR2 := Lib.hid hR2
      clear hR2
      go_wp2
      exact bodyPost_ret (results_tmp rfl _ _ _) rfl ⟨_, _, _, _, _, _, rfl, HR2.out, HB.out⟩
end Go.Proofs.Ytompelilflckkaa
