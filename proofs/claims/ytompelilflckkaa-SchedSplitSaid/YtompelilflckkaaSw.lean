/-
  The scheduler: begun.
-/
import Derived.Test.YtompelilflckkaaSv
namespace Go.Proofs.Ytompelilflckkaa
open Go.RowKit Go.Fl

theorem info77 : (Try.prog.info? 77).map (fun i => (i.zero, i.size, i.bytes)) = some (some (.pointer none), 1, 8) := by kernel_rfl
def cells0 (room : Int) : Array Value := #[.slice none 0 0, iv room, iv (-1), iv (-1), iv (-1), iv (-1), .slice none 0 0, .slice none 0 0, .slice none 0 0, .slice none 0 0, .slice none 0 0, .slice none 0 0, .slice none 0 0, .slice none 0 0,
  iv 0, iv 0, iv 0, iv 0, iv 0, iv 0, iv 0, iv 0, iv (-1), .slice none 0 0]
def f0 (room : Int) : Nat → Value := fun k => (cells0 room).getD k .nilIface
theorem rs0 {w : World} {base r : Nat} {room : Int} {b : Nat → Nat} (h : Blk w r 76 (cells0 room)) (hr : base ≤ r) : RS w base r (f0 room) b (begin_ [] room) := by
  have hc : ∀ k, k < 24 → f0 room k = match spec b (begin_ [] room) k with | .val u => u | .row _ _ _ _ => .slice none 0 0 := fun k hk => by
    have : k = 0 ∨ k = 1 ∨ k = 2 ∨ k = 3 ∨ k = 4 ∨ k = 5 ∨ k = 6 ∨ k = 7 ∨ k = 8 ∨ k = 9 ∨ k = 10 ∨ k = 11 ∨ k = 12 ∨ k = 13 ∨ k = 14 ∨ k = 15 ∨ k = 16 ∨ k = 17 ∨ k = 18 ∨ k = 19 ∨ k = 20 ∨ k = 21 ∨ k = 22 ∨ k = 23 := by omega
    rcases this with rfl | rfl | rfl | rfl | rfl | rfl | rfl | rfl | rfl | rfl | rfl | rfl | rfl | rfl | rfl | rfl | rfl | rfl | rfl | rfl | rfl | rfl | rfl | rfl <;> rfl
  have hz : ∀ k, k < 24 → ∀ e size n xs, spec b (begin_ [] room) k = .row e size n xs → n = 0 ∧ xs = [] := fun k hk e size n xs he => by
    have : k = 0 ∨ k = 1 ∨ k = 2 ∨ k = 3 ∨ k = 4 ∨ k = 5 ∨ k = 6 ∨ k = 7 ∨ k = 8 ∨ k = 9 ∨ k = 10 ∨ k = 11 ∨ k = 12 ∨ k = 13 ∨ k = 14 ∨ k = 15 ∨ k = 16 ∨ k = 17 ∨ k = 18 ∨ k = 19 ∨ k = 20 ∨ k = 21 ∨ k = 22 ∨ k = 23 := by omega
    rcases this with rfl | rfl | rfl | rfl | rfl | rfl | rfl | rfl | rfl | rfl | rfl | rfl | rfl | rfl | rfl | rfl | rfl | rfl | rfl | rfl | rfl | rfl | rfl | rfl <;> first | (injection he with _ _ h1 h2; exact ⟨h1.symm, h2.symm⟩) | cases he
  have hown : ∀ k, k < 24 → ∀ g, (spec b (begin_ [] room) k).own (f0 room k) ≠ some g := fun k hk g hg => by
    have h1 := hc k hk
    cases hs : spec b (begin_ [] room) k with
    | val u => rw [hs] at hg; cases hg
    | row e size n xs => rw [hs] at hg h1; rw [h1] at hg; cases hg
  refine ⟨⟨?_, hr, fun k hk => ?_, fun k hk e => ?_, fun k hk g hg => absurd hg (hown k hk g), fun j k hj hk _ g hg => absurd hg (hown j hj g)⟩, fun i hi => absurd hi (Nat.not_lt_zero i), fun i hi => absurd hi (Nat.not_lt_zero i), fun i j hi => absurd hi (Nat.not_lt_zero i)⟩
  · have := cellsN_of (cells0 room)
    rw [this] at h
    exact h
  · have h1 := hc k hk
    cases hs : spec b (begin_ [] room) k with
    | val u => rw [hs] at h1; exact h1
    | row e size n xs =>
      rw [hs] at h1
      obtain ⟨rfl, rfl⟩ := hz k hk e size n xs hs
      show Sl w e size (f0 room k) 0 []
      rw [h1]
      exact Sl.nil _ _ _
  · have := spec_elem e; omega

set_option maxRecDepth 100000 in
set_option maxHeartbeats 3200000 in
theorem begun_run {w : World} {tv : Value} {acts : List (List A)} {room : Int} (h : TasksV w.heap.size w tv acts) (hn : acts.length ≤ 16) :
    Calls Try.prog 29 #[tv, iv room] w fun e w' => ∃ r f b, e = .returned (.pointer (some ⟨r, 0, none⟩)) ∧ RS w' w.heap.size r f b (begin_ acts room) ∧ Below w.heap.size w w' := by
  obtain ⟨j77, si, sz0, sz1, sz2⟩ := info_parts info77
  have H := Lib.hid h
  obtain ⟨a, c, hv, hc, hcm, _⟩ := h
  subst hv
  go_enter Try.func29, Try.ntmps29
  go_wp2
  refine wp_loop_rounds 5 ?_
  rw [rounds_succ]
  go_wp2
  rw [rounds_succ]
  go_wp2
  rw [rounds_succ]
  go_wp2
  rw [rounds_succ]
  go_wp2
  rw [rounds_succ]
  go_wp2
  have hb0 : Blk (w.alloc (.cells (cells0 room) 76)) w.heap.size 76 (cells0 room) := Blk.new _ _ _
  have hB0 : Below w.heap.size w (w.alloc (.cells (cells0 room) 76)) := Below.of_only ((Only.refl [] w).alloc _) (Nat.le_refl _)
  go_loopw [23] (fun z wr => ∃ (k : Nat) (f : Nat → Value) (b : Nat → Nat), k ≤ acts.length ∧ z = .int .i64 k ∧ Hid (RS wr w.heap.size w.heap.size f b (begin_ (acts.take k) room)) ∧ Hid (Below w.heap.size w wr)) (fun z _ => acts.length - (intOf z).toNat)
  case atStart => exact ⟨0, f0 room, fun _ => 0, Nat.zero_le _, rfl, Lib.hid (rs0 hb0 (Nat.le_refl _)), Lib.hid hB0⟩
  case round =>
    obtain ⟨k, f, b, hk, rfl, HR, HB⟩ := hrel
    clear hb0 hB0
    by_cases hkl : k < acts.length
    · have hkz : (k : Int) < (acts.length : Int) := by omega
      obtain ⟨a', c', hv', _, _, hcell⟩ := H.out.below HB.out
      obtain ⟨g, off, ha, hgb, hg, hcc⟩ := hcell (by omega)
      injection hv' with e1 e2 e3
      subst e1
      subst e3
      subst ha
      clear e2
      obtain ⟨v, cv, hA⟩ := hcc k hkl
      obtain ⟨va, vc, hva, _, _, _⟩ := id hA
      have HA := Lib.hid hA
      have hlk : (acts.take k).length = k := by rw [List.length_take]; omega
      obtain ⟨c0, hS⟩ := HR.out.sTasks
      have hS : Sl wr 77 1 (f 0) k (ptrs b k) := by
        have : (begin_ (acts.take k) room).n = k := hlk
        rw [this] at hS
        exact hS
      obtain ⟨ta, tc, htv, _, _⟩ := hS.shape
      have HTV := Lib.hid htv
      rw [htv] at c0 hS
      have HS := Lib.hid hS
      have hlr := HR.out.lt
      have hfr := HR.out.rc.blk.frozen
      subst hva
      obtain ⟨x, hx⟩ : ∃ x, acts[k] = x := ⟨_, rfl⟩
      rw [hx] at HA cv
      clear hcell hcc hA hS htv hlk
      have hnb : Blk ((wr.alloc (.cells #[.slice va x.length vc, iv 0, iv (-1), iv 0, .bool false, iv 0] 80)).alloc (.cells #[.pointer (some ⟨wr.heap.size, 0, none⟩)] 77)) (wr.heap.size + 1) 77 #[.pointer (some ⟨wr.heap.size, 0, none⟩)] := by
        have := Blk.new (wr.alloc (.cells #[.slice va x.length vc, iv 0, iv (-1), iv 0, .bool false, iv 0] 80)) 77 #[.pointer (some ⟨wr.heap.size, 0, none⟩)]
        simpa using this
      go_wp2_with (at_builtin; refine wpList_append_one (news := [.pointer (some ⟨wr.heap.size, 0, none⟩)]) rfl (.tmp 31) (.tmp 35) 74 rfl 77 j77 _ 1 8 Try.underlying74 si sz0 sz1 sz2 rfl (by decide) rfl ((HS.out.alloc _).alloc _) rfl hnb rfl (by simp [Value.oneCell']) (by unfold maxLen; omega) (by omega) ?_)
      intro v2 w2 hS2 hg2 hat2
      have hO := (((Only.refl [] wr).alloc (.cells #[.slice va x.length vc, iv 0, iv (-1), iv 0, .bool false, iv 0] 80)).alloc (.cells #[.pointer (some ⟨wr.heap.size, 0, none⟩)] 77))
      obtain ⟨hW, bW⟩ := HR.out.only0 hO
      have hlk : (acts.take k).length = k := by rw [List.length_take]; omega
      obtain ⟨h3, b3, hblk⟩ := hW.addTask (g := wr.heap.size) (v := .slice va x.length vc) (v' := v2) (acts := x) ((Blk.new wr 80 _).alloc _) (HA.out.below (Below.of_only hO HB.out.size)) HB.out.size (fun i hi e => by
        obtain ⟨v0, hb0, _⟩ := HR.out.task i hi
        have := hb0.lt
        omega) (w2 := w2) (by rw [hlk]; exact hS2) (by rw [HTV.out]; exact hg2) (fun g hg => by
        rw [HTV.out]
        rcases hat2 with e | e
        · exact .inl (e ▸ hg)
        · rw [e] at hg; injection hg with hg; right; rw [← hg]; first | exact Nat.le_refl _ | simp)
      have he : acts.take (k + 1) = acts.take k ++ [x] := by rw [List.take_succ_eq_append_getElem hkl, hx]
      rw [← he, hlk] at h3
      obtain ⟨vb, vcc, hv2, _, _⟩ := hS2.shape
      subst hv2
      have H3 := Lib.hid h3
      have HB3 := Lib.hid ((HB.out.trans bW).trans b3)
      have hc2 := (hblk.cell 0).trans (cellsN_get (by omega))
      rw [HTV.out] at hc2
      have hfr2 := hblk.frozen
      have hlr2 := hblk.lt
      clear hS2 hg2 hat2 hO hW bW h3 b3 hblk he hnb c0 hlr hfr cv hx hlk
      go_wp2
      go_roundw
      case measure => simp [intOf]; omega
      case rel => exact ⟨k + 1, _, _, by omega, by go_num, H3, HB3⟩
    · obtain rfl : k = acts.length := by omega
      rw [List.take_length] at HR
      go_wp2
      refine bodyPost_ret (results_tmp rfl _ _ _) rfl ⟨_, _, _, rfl, HR.out, HB.out⟩
end Go.Proofs.Ytompelilflckkaa
