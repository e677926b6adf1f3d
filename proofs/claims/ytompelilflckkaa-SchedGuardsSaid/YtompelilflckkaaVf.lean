/-
  SchedGuards: its walk.
-/
import Derived.Test.YtompelilflckkaaVe
namespace Go.Proofs.Ytompelilflckkaa
open Go.RowKit Go.Fl

theorem info3z : (Try.prog.info? 3).map (fun i => (i.zero, i.size, i.bytes)) = some (some (iv 0), 1, 8) := by kernel_rfl
theorem make_200 (u : World) : (Instr.makeSlice 23 (.int .i64 200) (.int .i64 200)).run Try.prog u = .ok (.slice (some ⟨u.heap.size, 0, none⟩) 200 200) (u.alloc (.cells (madeCells #[iv 0] 200) 3)) := by
  obtain ⟨j3, si, sz0, sz1, sz2⟩ := info_parts info3z
  have h := run_make (P := Try.prog) u 23 3 j3 (iv 0) Try.underlying23 si sz0 .i64 .i64 200 200 (by omega) (Int.le_refl _) (by rw [sz2]; omega) (by omega)
  rw [sz1] at h
  exact h
theorem made_row {w : World} {g n : Nat} (h : Blk w g 3 (madeCells #[iv 0] n)) (hn : n ≤ maxLen) : Row intv w (.slice (some ⟨g, 0, none⟩) n n) (List.replicate n 0) := by
  refine ⟨_, _, by rw [List.length_replicate], by rw [List.length_replicate]; exact Nat.le_refl _, hn, fun _ => ⟨g, 0, rfl, h.lt, fun i hi => ?_⟩⟩
  rw [List.length_replicate] at hi
  rw [h.cell, ← Array.getElem?_toList, toList_madeCells_one, Nat.zero_add, List.getElem?_replicate, if_pos hi, List.getElem_replicate]
theorem getD_at {l : List Int} {i : Nat} (h : i < l.length) : l.getD i 0 = l[i] := by rw [List.getD_eq_getElem?_getD, List.getElem?_eq_getElem h]; rfl
set_option maxRecDepth 100000 in
set_option maxHeartbeats 12800000 in
theorem guards_ok {w : World} {v : Value} {ns : List Int} (b : Bool) (h : Row intv w v ns) : Calls Try.prog 8 #[v, .bool b] w fun e w' => e = .returned (.bool true) ∧ Only [] w w' := by
  obtain ⟨j47, si, sz0, sz1, sz2⟩ := info_parts info47
  have H := Lib.hid h
  obtain ⟨a, cap, rfl, hcap, hmax, hcell⟩ := h
  have HBG := Lib.hid (begun_ok w)
  go_enter Try.func8, Try.ntmps8
  go_wp2_with fail
  refine HBG.out.mono ?_
  clear HBG
  rintro e w1 ⟨rfl, hO1⟩
  have HO1 := Lib.hid hO1
  clear hO1
  by_cases h1 : ns.length < 1
  · have h1z : (ns.length : Int) < 1 := by omega
    clear hcell
    go_wp2
    exact bodyPost_ret (results_tmp rfl _ _ _) rfl ⟨rfl, HO1.out⟩
  have h1z : ¬ (ns.length : Int) < 1 := by omega
  by_cases h2 : 60 < ns.length
  · have h2z : (60 : Int) < (ns.length : Int) := by omega
    clear hcell
    go_wp2
    exact bodyPost_ret (results_tmp rfl _ _ _) rfl ⟨rfl, HO1.out⟩
  have h2z : ¬ (60 : Int) < (ns.length : Int) := by omega
  obtain ⟨gn, on, rfl, hgn, hcn⟩ := hcell (by omega)
  clear hcell
  have hS0 : Sl (w1.alloc (.cells #[iv 1, iv 1, iv 0, iv 0] 47)) 47 4 (.slice (some ⟨w1.heap.size, 0, none⟩) 1 1) 1 (flatA (gPre b ns 0)) := sl_quad (Blk.new _ _ _) rfl
  have HS0 := Lib.hid hS0
  have HO2 := Lib.hid (HO1.out.alloc (.cells #[iv 1, iv 1, iv 0, iv 0] 47))
  clear hS0
  have HCN := Lib.hid hcn
  clear hcn
  go_wp2
  go_loopw [5, 6] (fun u z wr => ∃ i : Nat, i ≤ ns.length ∧ z = .int .i64 i ∧ Hid (Sl wr 47 4 u (1 + 2 * i) (flatA (gPre b ns i))) ∧ Hid (∀ g, u.ownBlock = some g → w.heap.size ≤ g) ∧ Hid (Only [] w wr)) (fun _ z _ => ns.length - (intOf z).toNat)
  case atStart => exact ⟨0, Nat.zero_le _, rfl, HS0, Lib.hid (fun g hg => by simp [Value.ownBlock] at hg; have := HO1.out.size; omega), HO2⟩
  case round =>
    obtain ⟨i, hi, rfl, HS, HF, HO⟩ := hrel
    clear HS0 HO2
    obtain ⟨ua, uc, hu, _, _⟩ := HS.out.shape
    subst hu
    have hat := (flatA_at (gPre b ns i) 0 (by rw [gPre_len b ns hi]; omega)).1
    clear hat
    by_cases hil : i < ns.length
    · have hiz : (i : Int) < (ns.length : Int) := by omega
      have hx := HCN.out i hil
      have hx1 : wr.cell? ⟨gn, on + i, none⟩ = some (iv ns[i]) := (HO.out.cell (p := ⟨gn, on + i, none⟩) hgn (by simp)).trans hx
      cases b
      · have hip : gPre false ns (i + 1) = gPre false ns i ++ [⟨11, 0, 0, 0⟩, ⟨12, 0, 0, ns[i]⟩] := gPre_succ false ns hil
        go_wp2_with (at_builtin; refine wpList_append_one (news := [iv 11, iv 0, iv 0, iv 0]) rfl (.tmp 36) (.tmp 38) 45 rfl 47 j47 _ 4 32 Try.underlying45 si sz0 sz1 sz2 rfl (by decide) rfl (HS.out.alloc _) rfl (Blk.new _ _ _) rfl (by simp [Value.oneCell']) (by unfold maxLen; omega) (by omega) ?_)
        intro v2 w2 hS2 hg2 hat2
        have HS2 := Lib.hid hS2
        have HF2 := Lib.hid (own_fresh HF.out (hat2.imp (fun e => e) (fun e => by first | exact e | (rw [e]; simp))) (show w.heap.size ≤ wr.heap.size + 1 by have := HO.out.size; omega))
        have HO2 := Lib.hid ((HO.out.alloc (.cells ([iv 11, iv 0, iv 0, iv 0]).toArray 47)).grown hg2 (fun k hk => .inr (HF.out k hk)))
        have hx2 : w2.cell? ⟨gn, on + i, none⟩ = some (iv ns[i]) := (HO2.out.cell (p := ⟨gn, on + i, none⟩) hgn (by simp)).trans hx
        obtain ⟨ub, uc2, hu2, _, _⟩ := hS2.shape
        subst hu2
        clear hS2 hg2 hat2 hx1
        go_wp2_with (at_builtin; refine wpList_append_one (news := [iv 12, iv 0, iv 0, iv ns[i]]) rfl (.tmp 40) (.tmp 46) 45 rfl 47 j47 _ 4 32 Try.underlying45 si sz0 sz1 sz2 rfl (by decide) rfl (HS2.out.alloc _) rfl (Blk.new _ _ _) rfl (by simp [Value.oneCell']) (by unfold maxLen; omega) (by omega) ?_)
        intro v3 w3 hS3 hg3 hat3
        have HF3 := Lib.hid (own_fresh HF2.out (hat3.imp (fun e => e) (fun e => by first | exact e | (rw [e]; simp))) (show w.heap.size ≤ w2.heap.size + 1 by have := HO2.out.size; omega))
        have HO3 := Lib.hid ((HO2.out.alloc (.cells #[iv 12, iv 0, iv 0, iv ns[i]] 47)).grown hg3 (fun k hk => .inr (HF2.out k hk)))
        obtain ⟨ud, uc3, hu3, _, _⟩ := hS3.shape
        subst hu3
        have HS3 := Lib.hid hS3
        clear hS3 hg3 hat3 hx2
        go_wp2
        go_roundw
        case measure => simp [intOf]; omega
        case rel => exact ⟨i + 1, by omega, by go_num, Lib.hid (by
            rw [hip, flatA_append, show 1 + 2 * (i + 1) = 1 + 2 * i + 1 + 1 by omega]
            exact HS3.out), HF3, HO3⟩
      · have hip : gPre true ns (i + 1) = gPre true ns i ++ [⟨13, 0, 0, 1 + 2 * (i : Int) + 2⟩, ⟨12, 0, 0, ns[i]⟩] := by
          rw [gPre_succ true ns hil, if_pos rfl, show ((2 * i + 3 : Nat) : Int) = 1 + 2 * (i : Int) + 2 by omega]
        go_wp2_with (at_builtin; refine wpList_append_one (news := [iv 13, iv 0, iv 0, iv (1 + 2 * (i : Int) + 2)]) rfl (.tmp 29) (.tmp 34) 45 rfl 47 j47 _ 4 32 Try.underlying45 si sz0 sz1 sz2 rfl (by decide) rfl (HS.out.alloc _) rfl (Blk.new _ _ _) rfl (by simp [Value.oneCell']) (by unfold maxLen; omega) (by omega) ?_)
        intro v2 w2 hS2 hg2 hat2
        have HS2 := Lib.hid hS2
        have HF2 := Lib.hid (own_fresh HF.out (hat2.imp (fun e => e) (fun e => by first | exact e | (rw [e]; simp))) (show w.heap.size ≤ wr.heap.size + 1 by have := HO.out.size; omega))
        have HO2 := Lib.hid ((HO.out.alloc (.cells ([iv 13, iv 0, iv 0, iv (1 + 2 * (i : Int) + 2)]).toArray 47)).grown hg2 (fun k hk => .inr (HF.out k hk)))
        have hx2 : w2.cell? ⟨gn, on + i, none⟩ = some (iv ns[i]) := (HO2.out.cell (p := ⟨gn, on + i, none⟩) hgn (by simp)).trans hx
        obtain ⟨ub, uc2, hu2, _, _⟩ := hS2.shape
        subst hu2
        clear hS2 hg2 hat2 hx1
        go_wp2_with (at_builtin; refine wpList_append_one (news := [iv 12, iv 0, iv 0, iv ns[i]]) rfl (.tmp 40) (.tmp 46) 45 rfl 47 j47 _ 4 32 Try.underlying45 si sz0 sz1 sz2 rfl (by decide) rfl (HS2.out.alloc _) rfl (Blk.new _ _ _) rfl (by simp [Value.oneCell']) (by unfold maxLen; omega) (by omega) ?_)
        intro v3 w3 hS3 hg3 hat3
        have HF3 := Lib.hid (own_fresh HF2.out (hat3.imp (fun e => e) (fun e => by first | exact e | (rw [e]; simp))) (show w.heap.size ≤ w2.heap.size + 1 by have := HO2.out.size; omega))
        have HO3 := Lib.hid ((HO2.out.alloc (.cells #[iv 12, iv 0, iv 0, iv ns[i]] 47)).grown hg3 (fun k hk => .inr (HF2.out k hk)))
        obtain ⟨ud, uc3, hu3, _, _⟩ := hS3.shape
        subst hu3
        have HS3 := Lib.hid hS3
        clear hS3 hg3 hat3 hx2
        go_wp2
        go_roundw
        case measure => simp [intOf]; omega
        case rel => exact ⟨i + 1, by omega, by go_num, Lib.hid (by
            rw [hip, flatA_append, show 1 + 2 * (i + 1) = 1 + 2 * i + 1 + 1 by omega]
            exact HS3.out), HF3, HO3⟩
    · obtain rfl : i = ns.length := by omega
      have hL := gPre_len b ns (Nat.le_refl ns.length)
      have hG := gPre_guard b ns
      have hT := gPre_all b ns
      obtain ⟨L, hLe⟩ : ∃ L, L = gPre b ns ns.length := ⟨_, rfl⟩
      rw [← hLe] at HS hL hT
      have HG := Lib.hid (show ∀ i (h : i < L.length), L[i].kind = 13 → L[i].n ≤ ((1 + 2 * ns.length : Nat) : Int) by subst hLe; exact hG)
      clear hLe hG
      have HL := Lib.hid hL
      have HT := Lib.hid hT
      clear hL hT
      obtain ⟨g0, o0, c0, hv0, hg0, _, _, hcl, _⟩ := HS.out.form (by omega)
      injection hv0 with e1 _ e3
      subst e1
      subst e3
      have HCL := Lib.hid hcl
      clear hcl
      go_wp2
      go_loopw [7] (fun z wr2 => ∃ k : Nat, k ≤ 1 + 2 * ns.length ∧ z = .int .i64 k ∧ wr2 = wr) (fun z _ => 1 + 2 * ns.length - (intOf z).toNat)
      case atStart => exact ⟨0, Nat.zero_le _, rfl, rfl⟩
      case round =>
        obtain ⟨k, hk, rfl, rfl⟩ := hrel
        by_cases hkl : k < 1 + 2 * ns.length
        · have hkz : (k : Int) < 1 + 2 * (ns.length : Int) := by omega
          have hkL : k < L.length := by rw [HL.out]; exact hkl
          obtain ⟨p1, _, _, p4⟩ := flatA_at L k hkL
          have q1 := (HCL.out (k * 4) (by omega)).trans p1
          have q4 := (HCL.out (k * 4 + 3) (by omega)).trans p4
          rw [← Nat.add_assoc] at q4
          have hgd := HG.out k hkL
          clear p1 p4
          generalize L[k] = x at q1 q4 hgd
          by_cases hx : x.kind = 13
          · have hxn := hgd hx
            have hxz : ¬ (1 + 2 * (ns.length : Int)) < x.n := by omega
            rw [hx] at q1
            clear hgd
            go_wp2
            go_roundw
            case measure => simp [intOf]; omega
            case rel => exact ⟨k + 1, by omega, by go_num, by first | rfl | trivial⟩
          · have hxz : (x.kind == 13) = false := by simpa using hx
            clear hgd
            go_wp2
            go_roundw
            case measure => simp [intOf]; omega
            case rel => exact ⟨k + 1, by omega, by go_num, by first | rfl | trivial⟩
        · obtain rfl : k = 1 + 2 * ns.length := by omega
          clear HCL
          go_wp2_with (at_builtin; refine wpList_append_one (news := [iv 2, iv 1, iv 0, iv 0]) rfl (.tmp 70) (.tmp 72) 45 rfl 47 j47 _ 4 32 Try.underlying45 si sz0 sz1 sz2 rfl (by decide) rfl (HS.out.alloc _) rfl (Blk.new _ _ _) rfl (by simp [Value.oneCell']) (by unfold maxLen; omega) (by omega) ?_)
          intro v2 w2 hS2 hg2 hat2
          have HF2 := Lib.hid (own_fresh HF.out (hat2.imp (fun e => e) (fun e => by first | exact e | (rw [e]; simp))) (show w.heap.size ≤ wr.heap.size + 1 by have := HO.out.size; omega))
          have HO2 := Lib.hid ((HO.out.alloc (.cells #[iv 2, iv 1, iv 0, iv 0] 47)).grown hg2 (fun k hk => .inr (HF.out k hk)))
          have HS2 : Hid (Sl w2 47 4 v2 (1 + 2 * ns.length + 1) (flatA (gTask b ns))) := Lib.hid (by rw [HT.out, flatA_append]; exact hS2)
          obtain ⟨ub, uc2, hu2, _, _⟩ := hS2.shape
          subst hu2
          clear hS2 hg2 hat2
          have b0 : Sl (((w2.alloc (.cells #[iv 1, iv 1, iv 0, iv 0] 47)).alloc (.cells #[.slice ub (1 + 2 * ns.length + 1) uc2, .slice (some ⟨w2.heap.size, 0, none⟩) 1 1] 45)).alloc (.cells (madeCells #[iv 0] 200) 3)) 47 4 (.slice ub (1 + 2 * ns.length + 1 : Nat) uc2) (1 + 2 * ns.length + 1) (flatA (gTask b ns)) := ((HS2.out.alloc _).alloc _).alloc _
          have b1 : Blk (((w2.alloc (.cells #[iv 1, iv 1, iv 0, iv 0] 47)).alloc (.cells #[.slice ub (1 + 2 * ns.length + 1) uc2, .slice (some ⟨w2.heap.size, 0, none⟩) 1 1] 45)).alloc (.cells (madeCells #[iv 0] 200) 3)) w2.heap.size 47 #[iv 1, iv 1, iv 0, iv 0] := ((Blk.new _ _ _).alloc _).alloc _
          have b2 : Blk (((w2.alloc (.cells #[iv 1, iv 1, iv 0, iv 0] 47)).alloc (.cells #[.slice ub (1 + 2 * ns.length + 1) uc2, .slice (some ⟨w2.heap.size, 0, none⟩) 1 1] 45)).alloc (.cells (madeCells #[iv 0] 200) 3)) (w2.heap.size + 1) 45 #[.slice ub (1 + 2 * ns.length + 1 : Nat) uc2, .slice (some ⟨w2.heap.size, 0, none⟩) 1 1] := by
            have := (Blk.new (w2.alloc (.cells #[iv 1, iv 1, iv 0, iv 0] 47)) 45 #[.slice ub (1 + 2 * ns.length + 1) uc2, .slice (some ⟨w2.heap.size, 0, none⟩) 1 1]).alloc (.cells (madeCells #[iv 0] 200) 3)
            simpa using this
          have b3 : Blk (((w2.alloc (.cells #[iv 1, iv 1, iv 0, iv 0] 47)).alloc (.cells #[.slice ub (1 + 2 * ns.length + 1) uc2, .slice (some ⟨w2.heap.size, 0, none⟩) 1 1] 45)).alloc (.cells (madeCells #[iv 0] 200) 3)) (w2.heap.size + 1 + 1) 3 (madeCells #[iv 0] 200) := by
            have := Blk.new ((w2.alloc (.cells #[iv 1, iv 1, iv 0, iv 0] 47)).alloc (.cells #[.slice ub (1 + 2 * ns.length + 1) uc2, .slice (some ⟨w2.heap.size, 0, none⟩) 1 1] 45)) 3 (madeCells #[iv 0] 200)
            simpa using this
          have hO3 : Only [] w (((w2.alloc (.cells #[iv 1, iv 1, iv 0, iv 0] 47)).alloc (.cells #[.slice ub (1 + 2 * ns.length + 1) uc2, .slice (some ⟨w2.heap.size, 0, none⟩) 1 1] 45)).alloc (.cells (madeCells #[iv 0] 200) 3)) := ((HO2.out.alloc _).alloc _).alloc _
          have HMK := Lib.hid make_200
          have hmk := HMK.out
          clear HMK HS2 HF2 HO2
          go_wp2_with fail
          generalize ((w2.alloc (.cells #[.int .i64 1, .int .i64 1, .int .i64 0, .int .i64 0] 47)).alloc (.cells #[.slice ub (1 + 2 * ns.length + 1) uc2, .slice (some ⟨w2.heap.size, 0, none⟩) 1 1] 45)).alloc (.cells (madeCells #[.int .i64 0] 200) 3) = w3 at *
          have HT := Lib.hid (show TasksV w3.heap.size w3 (.slice (some ⟨w2.heap.size + 1, 0, none⟩) 2 2) (gTasks b ns) from ⟨_, _, rfl, Nat.le_refl _, by decide, fun _ => ⟨_, 0, rfl, b2.lt, b2.lt, fun i hi => by
            match i, hi with
            | 0, _ => exact ⟨_, b2.cell _, acts_sl b0 (by rw [show (gTasks b ns)[0] = gTask b ns from rfl, gTask_len]; omega)⟩
            | 1, _ => exact ⟨_, b2.cell _, acts_of (l := [⟨1, 1, 0, 0⟩]) b1 b1.lt rfl (by decide)⟩⟩⟩)
          have HR := Lib.hid (run_ok 1 400 HT.out (made_row b3 (by decide)) (fun g hg => by simp [Value.ownBlock] at hg; rw [← hg]; exact b3.lt) (g_asked b (by omega)))
          refine HR.out.mono ?_
          clear HR HT
          rintro e w4 ⟨v, rfl, hV, hB⟩
          have hV : RunV w3.heap.size w4 (all (List.replicate 200 0) 400 (begin_ (gTasks b ns) 1)) v := by
            have e : (List.replicate 200 (0 : Int)).map Int.toNat = List.replicate 200 0 := by rw [List.map_replicate]; rfl
            rw [e] at hV
            exact hV
          have HO4 := Lib.hid (hO3.trans (Only.of_below hB []))
          have hx0 : w4.cell? ⟨gn, on, none⟩ = some (iv ns[0]) := (HO4.out.cell (p := ⟨gn, on, none⟩) hgn (by simp)).trans (HCN.out 0 (by omega))
          have hx1 : w4.cell? ⟨gn, on + (ns.length - 1), none⟩ = some (iv ns[ns.length - 1]) := (HO4.out.cell (p := ⟨gn, on + (ns.length - 1), none⟩) hgn (by simp)).trans (HCN.out (ns.length - 1) (by omega))
          clear b0 b1 b2 b3 hO3 hB hmk HCN
          cases b
          · obtain ⟨s, hs, hn, k0, k1, k2, k3⟩ := unguarded_end (ns := ns) (by omega)
            rw [hs] at hV
            clear hs
            obtain ⟨tr, rg, en, qs, vs, hv, htr, hrg, hen, hqs, _, _, _, _, _⟩ := hV.it
            rw [hn] at hen
            obtain ⟨xa, xc, hx, _, _⟩ := htr.shape
            obtain ⟨ya, yc, hy, _, _⟩ := hqs.shape
            obtain ⟨g1, o1, c1, hr1, hg1, _, _, hc1, _⟩ := hrg.form (by omega)
            obtain ⟨g2, o2, c2, hr2, hg2, _, _, hc2, _⟩ := hen.form (by omega)
            have d7 : w4.cell? ⟨g1, o1 + 7, none⟩ = some (iv (s.regs 7)) := hc1 7 (by omega)
            have f0 : w4.cell? ⟨g2, o2, none⟩ = some (iv (how s (s.ts 0))) := hc2 0 (by omega)
            have f1 : w4.cell? ⟨g2, o2 + 1, none⟩ = some (iv (s.ts 0).num) := hc2 1 (by omega)
            have f2 : w4.cell? ⟨g2, o2 + 2, none⟩ = some (iv (how s (s.ts 1))) := hc2 2 (by omega)
            subst hx hy hr1 hr2
            subst hv
            clear hc1 hc2 htr hrg hen hqs hV
            have hgn4 : gn < w4.heap.size := Nat.lt_of_lt_of_le hgn HO4.out.size
            rw [k0] at f0
            rw [k1, getD_at (by omega)] at f1
            rw [k2] at f2
            rw [k3] at d7
            go_wp2
            go_quiet (fail)
            go_wp2
            exact bodyPost_ret (results_tmp rfl _ _ _) rfl ⟨rfl, (HO4.out.alloc _).drewN _⟩
          · obtain ⟨s, hs, hn, k0, k1, k2⟩ := guarded_end (ns := ns) (by omega) (by omega)
            rw [hs] at hV
            clear hs
            obtain ⟨tr, rg, en, qs, vs, hv, htr, hrg, hen, hqs, _, _, _, _, _⟩ := hV.it
            rw [hn] at hen
            obtain ⟨xa, xc, hx, _, _⟩ := htr.shape
            obtain ⟨ya, yc, hy, _, _⟩ := hqs.shape
            obtain ⟨g1, o1, c1, hr1, hg1, _, _, hc1, _⟩ := hrg.form (by omega)
            obtain ⟨g2, o2, c2, hr2, hg2, _, _, hc2, _⟩ := hen.form (by omega)
            have d7 : w4.cell? ⟨g1, o1 + 7, none⟩ = some (iv (s.regs 7)) := hc1 7 (by omega)
            have f0 : w4.cell? ⟨g2, o2, none⟩ = some (iv (how s (s.ts 0))) := hc2 0 (by omega)
            have f1 : w4.cell? ⟨g2, o2 + 1, none⟩ = some (iv (s.ts 0).num) := hc2 1 (by omega)
            have f2 : w4.cell? ⟨g2, o2 + 2, none⟩ = some (iv (how s (s.ts 1))) := hc2 2 (by omega)
            subst hx hy hr1 hr2
            subst hv
            clear hc1 hc2 htr hrg hen hqs hV
            have hgn4 : gn < w4.heap.size := Nat.lt_of_lt_of_le hgn HO4.out.size
            rw [k0] at f0
            rw [k1] at f2
            rw [k2, getD_at (by omega)] at d7
            go_wp2
            go_quiet (fail)
            go_wp2
            exact bodyPost_ret (results_tmp rfl _ _ _) rfl ⟨rfl, (HO4.out.alloc _).drewN _⟩
end Go.Proofs.Ytompelilflckkaa
