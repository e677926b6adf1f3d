/-
  The document's own Run, where it may be asked for.
-/
import Derived.Test.YtompelilflckkaaNd
import Derived.Test.YtompelilflckkaaNc
import Derived.Deep.CutBlock
import Derived.Deep.DeepCutAuto
set_option linter.unusedSimpArgs false
set_option linter.unusedVariables false
namespace Go.Proofs.Ytompelilflckkaa
open Go.RowKit Go.Fl

theorem Blk.new2 (w : World) (o : Obj) (t : TypeId) (cs : Array Value) : Blk ((w.alloc o).alloc (.cells cs t)).drew (w.heap.size + 1) t cs := by
  have h : Blk ((w.alloc o).alloc (.cells cs t)) (w.heap.size + 1) t cs := by simpa using Blk.new (w.alloc o) t cs
  exact h.drew
theorem Blk.new3 (w : World) (p : Addr) (u : Value) (t : TypeId) (cs : Array Value) : Blk ((w.setCell p u).alloc (.cells cs t)) w.heap.size t cs := by
  have h := Blk.new (w.setCell p u) t cs
  simpa using h
theorem Blk.new4 (w : World) (p q : Addr) (u v : Value) (t : TypeId) (cs : Array Value) : Blk (((w.setCell p u).setCell q v).alloc (.cells cs t)) w.heap.size t cs := by
  have h := Blk.new ((w.setCell p u).setCell q v) t cs
  simpa using h
set_option maxRecDepth 100000 in
set_option maxHeartbeats 32000000 in
theorem rrun_ok {w : World} {tv pv : Value} {acts : List (List A)} {ps : List Int} (room most : Int) (h : TasksV w.heap.size w tv acts) (hp : Row intv w pv ps) (hpb : ∀ g, pv.ownBlock = some g → g < w.heap.size) (hk : askedM acts room ps most = 0) :
    Calls Try.prog 13 #[tv, iv room, pv, iv most] w fun e w' => ∃ tr rg en qs, e = .returned (.tuple #[.agg #[iv (all (ps.map Int.toNat) most.toNat (begin_ acts room)).trace.length, tr, rg, en, qs], iv 0]) ∧ RD w' (all (ps.map Int.toNat) most.toNat (begin_ acts room)) tr rg en qs ∧ Only [] w w' := by
  have hO := (Only.refl [] w).alloc (.cells #[iv 0, .slice none 0 0, .slice none 0 0, .slice none 0 0, .slice none 0 0] 33)
  have h0 : askedM acts room ps 0 = 0 := by
    have hmore := asked_more acts room most ps
    by_cases e : askedM acts room ps 0 = 0
    · exact e
    · rw [if_pos e] at hmore; omega
  have HA := Lib.hid (asked2_ok room (TasksV.here (h.below (Below.of_only hO (Nat.le_refl _)))) (hp.only hO))
  rw [h0] at HA
  have hbk : Blk (w.alloc (.cells #[iv 0, .slice none 0 0, .slice none 0 0, .slice none 0 0, .slice none 0 0] 33)) w.heap.size 33 #[iv 0, .slice none 0 0, .slice none 0 0, .slice none 0 0, .slice none 0 0] := Blk.new _ _ _
  obtain ⟨q1, q2, q3, q4, q5, q6, q7, q8, q9, q10⟩ := asked_zero hk
  obtain ⟨m, rfl⟩ := nat_of q4
  have HWF := Lib.hid (begin_wf q1 q2 q3 q8 q9 q10)
  have HT := Lib.hid h
  have HP := Lib.hid hp
  have HQ7 := Lib.hid q7
  have hm0 : ¬ (m : Int) < 0 := by omega
  have hm1 : ¬ (65536 : Int) < (m : Int) := by omega
  obtain ⟨pa, pc, hpv, _, _, _⟩ := hp
  clear q7 q8 q9 q10 hpb h hk h0 q4
  rw [Int.toNat_natCast]
  have htl := (all_wf (ps.map Int.toNat) m _ _ HWF.out).2.2
  obtain ⟨sF, hsF⟩ : ∃ s, all (ps.map Int.toNat) m (begin_ acts room) = s := ⟨_, rfl⟩
  have HSF := Lib.hid hsF
  rw [hsF] at htl
  have HTL : Hid (sF.trace.length ≤ m) := Lib.hid (by
    have e : (begin_ acts room).trace.length = 0 := rfl
    omega)
  clear htl
  rw [hsF]
  clear hsF
  subst hpv
  go_enter Try.func13, Try.ntmps13
  go_wp2_with fail
  refine HA.out.mono ?_
  clear HA
  rintro e w1 ⟨rfl, hO1⟩
  have HO := Lib.hid (hO.trans hO1)
  have HB1 := Lib.hid (hbk.only hO1 (by simp))
  have hsz : w.heap.size < w1.heap.size := HB1.out.lt
  have HBG := Lib.hid (beginC (room := room) (HT.out.below (Below.of_only HO.out (Nat.le_refl _))).here (by omega) HWF.out)
  clear hO hO1 hbk HT
  go_wp2_with fail
  refine HBG.out.mono ?_
  clear HBG
  rintro e w2 ⟨r, g, o, tv2, vs, rfl, hR⟩
  have HQ0 : Hid (RQ w1 (w2.alloc (.cells #[iv 0, .slice none 0 0, .slice none 0 0, .slice none 0 0, .slice none 0 0] 33)) r g o w2.heap.size tv2 vs acts (begin_ acts room) 0 [] (.slice none 0 0)) :=
    Lib.hid ⟨hR.only0 ((Only.refl [] w2).alloc _), Blk.new _ _ _, hR.bl.size, Sl.nil _ _ _, fun b hb => (by cases hb)⟩
  have HRD := Lib.hid HQ0.out.readyC
  obtain ⟨gq, hgq⟩ : ∃ x, x = w2.heap.size := ⟨_, rfl⟩
  have HGQ := Lib.hid hgq
  clear hR HQ0
  go_wp2_with fail
  refine HRD.out.mono ?_
  clear HRD
  rintro e w3 ⟨u, rfl, hS, hQ⟩
  rw [← hgq] at hQ ⊢
  have HS := Lib.hid hS
  have HQ := Lib.hid hQ
  clear hS hQ hgq HGQ
  go_upto_block 0 with fail
  go_cut [] (fun wx => ∃ tr, Hid (RQ w1 wx r g o gq tv2 vs acts sF sF.trace.length sF.trace tr))
  case first =>
    obtain ⟨j39, si, sz0, sz1, sz2⟩ := info_parts info39
    go_wp2
    go_loopw [13, 14, 15] (fun u x14 x15 wr => ∃ (k : Nat) (s1 : S) (tr : Value), k ≤ m ∧ Hid (s1.trace.length = k) ∧ Hid (RQ w1 wr r g o gq tv2 vs acts s1 k s1.trace tr) ∧ Hid (Sl wr 3 1 u (ready s1).length (nats (ready s1))) ∧ Hid (all (ps.map Int.toNat) (m - k) s1 = sF)) (fun _ _ _ wr => m - cnt0 wr gq)
    case atStart => exact ⟨0, begin_ acts room, _, Nat.zero_le _, Lib.hid rfl, HQ, HS, HSF⟩
    case round =>
      obtain ⟨w4, hwo⟩ : ∃ x : World, x = wr := ⟨_, rfl⟩
      subst hwo
      obtain ⟨k, s1, tr, hk, HK, HQ1, HS1, HE⟩ := hrel
      clear HS HQ
      obtain ⟨ua, uc, hu, _, _⟩ := HS1.out.shape
      subst hu
      have HT1 := Lib.hid HQ1.out.T
      rw [HK.out] at HT1
      obtain ⟨ta, tc, ht, _, _⟩ := HT1.out.shape
      subst ht
      obtain ⟨hcq, hfq, hlq⟩ := HQ1.out.B.facts
      by_cases hkl : k < m
      · have hkz : (k : Int) < (m : Int) := by omega
        by_cases hrd : ready s1 = []
        · have HF := Lib.hid (all_stop (picks := ps.map Int.toNat) (k := m - k) hrd)
          have hl0 : (ready s1).length = 0 := by rw [hrd]; rfl
          have HR : Hid (∃ tr, Hid (RQ w1 w4 r g o gq tv2 vs acts sF sF.trace.length sF.trace tr)) := Lib.hid ⟨_, by
            have e : s1 = sF := HF.out.symm.trans HE.out
            rw [← e, HK.out]; exact HQ1⟩
          rw [hl0]
          clear HF hl0 hrd HS1 HE HT1
          go_wp2_with fail
          go_meet
          exact HR.out
        · have hl : 0 < (ready s1).length := List.length_pos_iff.2 hrd
          have hlz : (0 : Int) < ((ready s1).length : Int) := by omega
          have hl16 : (ready s1).length ≤ 16 := Nat.le_trans (ready_len s1) HQ1.out.L.wf.n
          obtain ⟨cl, hlr⟩ := HQ1.out.L.lastcell
          have hnm := next_mem (s := s1) (picks := ps.map Int.toNat) hrd
          obtain ⟨hin, hhow⟩ := ready_mem hnm
          have hag := all_go (picks := ps.map Int.toNat) (k := m - (k + 1)) hrd
          rw [show m - (k + 1) + 1 = m - k by omega] at hag
          have HAG := Lib.hid hag
          obtain ⟨cap, htv, ct, hgl⟩ := HQ1.out.L.tasks (by omega)
          have hfg : ∀ j, w4.frozen? ⟨g, j, none⟩ = false := by
            obtain ⟨f, raw, h1, _⟩ := HQ1.out.L.it
            obtain ⟨_, _, _, _, _, _, _, hf⟩ := h1.cells hin
            exact hf
          have cat := HQ1.out.L.atcell hin hhow
          have hsl := (step_ok HQ1.out.L.wf hin hhow).2.2
          have HSL := Lib.hid hsl
          have HL65 : Hid (s1.trace.length ≤ 65536) := Lib.hid (by rw [HK.out]; omega)
          have HIN := Lib.hid hin
          have HHOW := Lib.hid hhow
          have HPK : Hid (∃ (pk : Int), ((k < ps.length → ∃ gp op, pa = some ⟨gp, op, none⟩ ∧ gp < w4.heap.size ∧ w4.cell? ⟨gp, op + k, none⟩ = some (iv pk)) ∧ (¬ k < ps.length → pk = -1)) ∧
              Calls Try.prog 25 #[.slice ua (ready s1).length uc, iv pk, iv s1.last] w4 fun e w' => e = .returned (iv (next s1 (ready s1) (ps.map Int.toNat) : Nat)) ∧ w' = w4) := Lib.hid (by
            by_cases hpk : k < ps.length
            · obtain ⟨pa', pc', hpe, _, _, hpcell⟩ := HP.out
              obtain ⟨gp, op, hga, hgp, hpx⟩ := hpcell (by omega)
              injection hpe with hpe1 _ hpe3
              obtain ⟨x, hx⟩ := nat_of (HQ7.out _ (List.getElem_mem hpk))
              have cp : w4.cell? ⟨gp, op + k, none⟩ = some (iv (x : Int)) := by
                rw [← hx]
                refine Eq.trans ?_ (hpx k hpk)
                refine (World.cell?_of_block (w := w1) (a := ⟨gp, op + k, none⟩) (HQ1.out.L.bl.block gp (by omega))).trans ?_
                exact HO.out.cell (p := ⟨gp, op + k, none⟩) hgp (by simp)
              refine ⟨x, ⟨fun _ => ⟨gp, op, by rw [hpe1, hga], Nat.lt_of_lt_of_le hgp (Nat.le_trans (Nat.le_of_lt hsz) HQ1.out.L.bl.size), cp⟩, fun hn => absurd hpk hn⟩, ?_⟩
              have hnx : next s1 (ready s1) (ps.map Int.toNat) = (ready s1).getD (x % (ready s1).length) 0 := by
                unfold next
                rw [dif_pos (by rw [HK.out, List.length_map]; exact hpk)]
                simp only [HK.out, List.getElem_map, hx, Int.toNat_natCast]
              rw [hnx]
              exact pick_yes x s1.last HS1.out hl
            · refine ⟨-1, ⟨fun hn => absurd hn hpk, fun _ => rfl⟩, ?_⟩
              have hnx : next s1 (ready s1) (ps.map Int.toNat) = match (ready s1).find? (fun (i : Nat) => decide (s1.last < (i : Int))) with | some i => i | none => (ready s1).getD 0 0 := by
                unfold next
                rw [dif_neg (by rw [HK.out, List.length_map]; exact hpk)]
                cases (ready s1).find? (fun (i : Nat) => decide (s1.last < (i : Int))) <;> rfl
              rw [hnx]
              exact pick_no s1.last HS1.out hl hl16)
          clear hnm hag hsl hin hhow hrd hl16
          generalize next s1 (ready s1) (ps.map Int.toNat) = i' at *
          have hin := HIN.out
          have hinz : (i' : Int) < (s1.n : Int) := by omega
          have hn16 := HQ1.out.L.wf.n
          generalize hml : (ready s1).length = ml at *
          clear hml
          obtain ⟨pk, ⟨hpy, hpn⟩, HPC⟩ := HPK.out
          have HPC := Lib.hid HPC
          clear HPK
          by_cases hpk : k < ps.length
          · have hpkz : (k : Int) < (ps.length : Int) := by omega
            obtain ⟨gp, op, rfl, hgp4, cp⟩ := hpy hpk
            clear hpn hpy
            go_wp2_with fail
            refine HPC.out.mono ?_
            clear HPC
            rintro e w5 ⟨rfl, hw5⟩
            rw [hw5]
            clear hw5
            go_wp2
            refine Lex.wp_region_text (by kernel_rfl) (by kernel_rfl) ?_
            go_wp2_with (at_builtin; refine wpList_append_one (news := [iv i', iv (s1.ts i').pc]) rfl (.tmp 69) (.tmp 80) 28 rfl 39 j39 _ 2 16 Try.underlying28 si sz0 sz1 sz2 rfl (by decide) rfl (HT1.out.alloc _) rfl (Blk.new _ _ _) rfl (by simp [Value.oneCell']) (by unfold maxLen; omega) (by omega) ?_)
            intro v7 w7 hS7 hg7 hat7
            have hP7 := RQ.turn (HQ1.out.only0 ((Only.refl [] w4).alloc (.cells #[iv i', iv (s1.ts i').pc] 39)).drew) HK.out (x := (i', (s1.ts i').pc)) hS7 hg7 (hat7.imp (fun e => e) (fun e => by rw [e]; simp))
            have HP7 := Lib.hid hP7.1
            obtain ⟨hcq7, hfq7, hlq7⟩ := hP7.2.facts
            have HST := Lib.hid (hP7.1.stepC HIN.out HHOW.out HL65.out)
            obtain ⟨va, vc, hv7, _, _⟩ := hS7.shape
            subst hv7
            clear hP7 hS7 hg7 hat7
            go_wp2
            refine Lex.sq_done (by rfl) ?_
            go_wp2_with fail
            refine HST.out.mono ?_
            clear HST HP7 hcq7 hfq7 hlq7 hcq hfq hlq ct cat hgl hfg cl hlr
            rintro e w8 ⟨rfl, hQ8⟩
            have HQ8 := Lib.hid hQ8
            have HRD := Lib.hid hQ8.count.readyC
            obtain ⟨hcq8, hfq8, hlq8⟩ := hQ8.B.facts
            clear hQ8
            go_wp2_with fail
            refine HRD.out.mono ?_
            clear HRD hcq8 hfq8 hlq8
            rintro e w9 ⟨u9, rfl, hS9, hQ9⟩
            have HS9 := Lib.hid hS9
            have HQ9 := Lib.hid hQ9
            clear hS9 hQ9
            go_wp2
            go_roundw
            case measure => rw [HQ9.out.cnt, HQ1.out.cnt]; omega
            case rel => exact ⟨k + 1, step s1 i', _, by omega, Lib.hid (by rw [HSL.out, List.length_append, HK.out]; rfl), Lib.hid (by rw [HSL.out]; exact HQ9.out), HS9, Lib.hid (by rw [← HE.out, HAG.out])⟩
          · have hpkz : ¬ (k : Int) < (ps.length : Int) := by omega
            obtain rfl := hpn hpk
            clear hpn hpy
            go_wp2_with fail
            refine HPC.out.mono ?_
            clear HPC
            rintro e w5 ⟨rfl, hw5⟩
            rw [hw5]
            clear hw5
            go_wp2
            refine Lex.wp_region_text (by kernel_rfl) (by kernel_rfl) ?_
            go_wp2_with (at_builtin; refine wpList_append_one (news := [iv i', iv (s1.ts i').pc]) rfl (.tmp 69) (.tmp 80) 28 rfl 39 j39 _ 2 16 Try.underlying28 si sz0 sz1 sz2 rfl (by decide) rfl (HT1.out.alloc _) rfl (Blk.new _ _ _) rfl (by simp [Value.oneCell']) (by unfold maxLen; omega) (by omega) ?_)
            intro v7 w7 hS7 hg7 hat7
            have hP7 := RQ.turn (HQ1.out.only0 ((Only.refl [] w4).alloc (.cells #[iv i', iv (s1.ts i').pc] 39)).drew) HK.out (x := (i', (s1.ts i').pc)) hS7 hg7 (hat7.imp (fun e => e) (fun e => by rw [e]; simp))
            have HP7 := Lib.hid hP7.1
            obtain ⟨hcq7, hfq7, hlq7⟩ := hP7.2.facts
            have HST := Lib.hid (hP7.1.stepC HIN.out HHOW.out HL65.out)
            obtain ⟨va, vc, hv7, _, _⟩ := hS7.shape
            subst hv7
            clear hP7 hS7 hg7 hat7
            go_wp2
            refine Lex.sq_done (by rfl) ?_
            go_wp2_with fail
            refine HST.out.mono ?_
            clear HST HP7 hcq7 hfq7 hlq7 hcq hfq hlq ct cat hgl hfg cl hlr
            rintro e w8 ⟨rfl, hQ8⟩
            have HQ8 := Lib.hid hQ8
            have HRD := Lib.hid hQ8.count.readyC
            obtain ⟨hcq8, hfq8, hlq8⟩ := hQ8.B.facts
            clear hQ8
            go_wp2_with fail
            refine HRD.out.mono ?_
            clear HRD hcq8 hfq8 hlq8
            rintro e w9 ⟨u9, rfl, hS9, hQ9⟩
            have HS9 := Lib.hid hS9
            have HQ9 := Lib.hid hQ9
            clear hS9 hQ9
            go_wp2
            go_roundw
            case measure => rw [HQ9.out.cnt, HQ1.out.cnt]; omega
            case rel => exact ⟨k + 1, step s1 i', _, by omega, Lib.hid (by rw [HSL.out, List.length_append, HK.out]; rfl), Lib.hid (by rw [HSL.out]; exact HQ9.out), HS9, Lib.hid (by rw [← HE.out, HAG.out])⟩
      · obtain rfl : k = m := by omega
        have HR : Hid (∃ tr, Hid (RQ w1 w4 r g o gq tv2 vs acts sF sF.trace.length sF.trace tr)) := Lib.hid ⟨_, by
          have e := HE.out
          rw [Nat.sub_self] at e
          have e : s1 = sF := e
          rw [← e, HK.out]; exact HQ1⟩
        clear HS1 HE HT1
        generalize (ready s1).length = ml at *
        go_wp2_with fail
        go_meet
        exact HR.out
  case rest =>
    obtain ⟨tr, HQC⟩ := hcut
    obtain ⟨j2, si, sz0, sz1, sz2⟩ := info_parts info2
    obtain ⟨j29, ti, tz0, tz1, tz2⟩ := info_parts info29
    obtain ⟨j49, ui, uz0, uz1, uz2⟩ := info_parts info49
    obtain ⟨ta, tc, ht, _, _⟩ := HQC.out.T.shape
    subst ht
    obtain ⟨hcq, hfq, hlq⟩ := HQC.out.B.facts
    have hregs := HQC.out.L.cRegs
    have hlr := HQC.out.L.lt
    clear HS HQ
    go_wp2
    refine Lex.wp_region_text (by kernel_rfl) (by kernel_rfl) ?_
    go_wp2_with (at_builtin; refine wpList_append_sl _ rfl (.tmp 93) (.tmp 97) 29 rfl 2 j2 _ 1 8 Try.underlying29 si sz0 sz1 sz2 rfl (by decide) (.slice none 0 0) 0 [] rfl (Sl.nil _ _ _) ⟨r, 13, none⟩ 8 8 (regsV sF) rfl (by simp [regsV]) hregs (by simp [regsV, Value.oneCell']) (by unfold maxLen; omega) (by omega) ?_)
    intro v7 w7 hS7 hg7 hat7
    have hP7 := RQ.regs (v7 := v7) (HQC.out.only0 (by (repeat (first | with_reducible exact Only.refl _ _ | with_reducible exact Only.refl [] wc | with_reducible refine Only.drew ?_ | with_reducible refine Only.drewN ?_ _ | with_reducible refine Only.alloc ?_ _ | ((with_reducible refine Only.setCell ?_ ?_ _); rotate_left; (focus (first | (left; simp; done) | (right; simp; done) | (right; simp; omega) | (right; omega)))))))) (by simpa using hS7) hg7
    have HP7 := Lib.hid hP7.1
    obtain ⟨hcq7, hfq7, hlq7⟩ := hP7.2.facts
    obtain ⟨rga, rgc, hv7, _, _⟩ := hS7.shape
    subst hv7
    clear hP7 hS7 hg7 hat7 hcq hfq hlq hregs
    go_wp2
    refine Lex.sq_done (by rfl) ?_
    clear hcq7 hfq7 hlq7 HQC hlr
    go_wp2
    go_loopw [16] (fun z wr => ∃ (k : Nat) (qs : Value) (us : List Value), k ≤ 4 ∧ z = .int .i64 k ∧ Hid (us.length = k) ∧ Hid (RW w1 wr r g o gq tv2 vs acts sF (.slice ta sF.trace.length tc) (.slice rga 8 rgc) (.slice none 0 0) qs us 0)) (fun z _ => 4 - (intOf z).toNat)
    case atStart => exact ⟨0, _, [], Nat.zero_le _, rfl, Lib.hid rfl, HP7⟩
    case round =>
      obtain ⟨w5, hwo⟩ : ∃ x : World, x = wr := ⟨_, rfl⟩
      subst hwo
      obtain ⟨k, qs, us, hk, rfl, HU, HW⟩ := hrel
      clear HP7
      have HQS := Lib.hid HW.out.Q
      rw [HU.out] at HQS
      obtain ⟨qa, qc, hqv, _, _⟩ := HQS.out.shape
      subst hqv
      obtain ⟨hcq, hfq, hlq⟩ := HW.out.B.facts
      have hlr := HW.out.L.lt
      by_cases hk4 : k < 4
      · have hk4z : (k : Int) < 4 := by omega
        obtain ⟨xv, hxc, hxs⟩ := HW.out.L.queue hk4
        obtain ⟨xa, xc, hxv, _, _⟩ := hxs.shape
        subst hxv
        have HXS := Lib.hid hxs
        have hql : (sF.queues k).length ≤ 65536 := Nat.le_trans (HW.out.L.wf.queues k) (Nat.le_trans HTL.out (by omega))
        clear hxs
        go_wp2
        go_region_law (first
          | (refine step_append_sls rfl (.const (.slice none 0 0)) (.tmp 111) 29 rfl 2 j2 _ 1 8 Try.underlying29 si sz0 sz1 sz2 rfl (by decide) rfl (Sl.nil _ _ _) rfl HXS.out (by simp [ints, Value.oneCell']) (by unfold maxLen; omega) (by omega) ?_
             intro v6 w6 hS6 hg6 hat6
             have HO6 : Hid (Only [] w5 w6) := Lib.hid (only_grown (Only.refl [] w5).drew hg6 rfl)
             have HS6 : Hid (Sl w6 2 1 v6 (sF.queues us.length).length (ints (sF.queues us.length))) := Lib.hid (by rw [HU.out]; simpa using hS6)
             obtain ⟨ua, uc, hv6, _, _⟩ := HS6.out.shape
             rw [HU.out] at hv6
             subst hv6
             have HQ6 := Lib.hid (HW.out.only0 HO6.out)
             have HQS6 := Lib.hid (HQS.out.only HO6.out (by simp))
             have hcq6 := HQ6.out.B.cell
             have hcq6a : ∀ u, (w6.alloc (.cells u 29)).cell? ⟨gq, 4, none⟩ = some (.slice qa k qc) := fun u => (HQ6.out.B.alloc (.cells u 29)).cell 4
             clear hS6 hg6 hat6)
          | (refine step_append_sls rfl (.tmp 105) (.tmp 113) 31 rfl 29 j29 _ 1 24 Try.underlying31 ti tz0 tz1 tz2 rfl (by decide) rfl (HQS6.out.alloc _) rfl (sl_one (Blk.new _ _ _) rfl) (by simp [Value.oneCell']) (by unfold maxLen; omega) (by omega) ?_
             intro v7 w7 hS7 hg7 hat7
             have hoA : Only [] w6 (w6.alloc (.cells #[.slice ua (sF.queues k).length uc] 29)) := (Only.refl _ _).alloc _
             have hP7 := RW.queue (HQ6.out.only0 hoA) (HS6.out.only hoA (by simp)) (v7 := v7) (by rw [HU.out]; exact hS7) hg7 hat7
             have HP7 := Lib.hid hP7.1
             have HUL : Hid ((us ++ [(.slice ua (sF.queues k).length uc : Value)]).length = k + 1) := Lib.hid (by rw [List.length_append, HU.out]; rfl)
             obtain ⟨pa, pc, hv7, _, _⟩ := hS7.shape
             subst hv7
             obtain ⟨hcq7, hfq7, hlq7⟩ := hP7.2.facts
             clear hS7 hg7 hat7 hoA hP7))
        all_goals
          go_wp2
          go_roundw
          case measure => simp [intOf]; omega
          case rel => exact ⟨k + 1, _, _, by omega, by go_num, HUL, HP7⟩
      · have hk4z : ¬ (k : Int) < 4 := by omega
        have HU4 : Hid (us.length = 4) := Lib.hid (by rw [HU.out]; omega)
        clear hcq hfq hlq
        obtain ⟨k4, hk4e⟩ : ∃ x, x = k := ⟨_, rfl⟩
        subst hk4e
        clear hlr
        go_wp2
        go_loopw [17, 18] (fun z x18 wr => ∃ (k : Nat) (en : Value), k ≤ sF.n ∧ z = .int .i64 k ∧ Hid (RW w1 wr r g o gq tv2 vs acts sF (.slice ta sF.trace.length tc) (.slice rga 8 rgc) en (.slice qa k4 qc) us k)) (fun z _ _ => sF.n - (intOf z).toNat)
        case atStart => exact ⟨0, _, Nat.zero_le _, rfl, HW⟩
        case round =>
          obtain ⟨w6, hwo⟩ : ∃ x : World, x = wr := ⟨_, rfl⟩
          subst hwo
          obtain ⟨k, en, hk, rfl, HE⟩ := hrel
          clear HW HQS
          obtain ⟨na, nc, hnv, _, _⟩ := HE.out.N.shape
          subst hnv
          obtain ⟨hcq, hfq, hlq⟩ := HE.out.B.facts
          have hlr := HE.out.L.lt
          have hn16 := HE.out.L.wf.n
          by_cases hkl : k < sF.n
          · have hkz : (k : Int) < (sF.n : Int) := by omega
            obtain ⟨tcap, _, ct0, hgl⟩ := HE.out.L.tasks (by omega)
            obtain ⟨hw, ch, cn, hcase⟩ := HE.out.L.howC hkl
            generalize hnum : (sF.ts k).num = num at *
            have HNUM := Lib.hid hnum
            clear hnum
            rcases hcase with ⟨hne, hhw⟩ | ⟨rfl, v, hC, hhw⟩
            · have HHW := Lib.hid hhw
              clear hhw
              have hz : (hw == 0) = false := by simpa using hne
              go_wp2
              refine Lex.wp_region_text (by kernel_rfl) (by kernel_rfl) ?_
              go_wp2
              refine Lex.sq_done (by rfl) ?_
              go_wp2_with (at_builtin; refine wpList_append_one (news := [iv hw, iv num]) rfl (.tmp 154) (.tmp 156) 30 rfl 49 j49 _ 2 16 Try.underlying30 ui uz0 uz1 uz2 rfl (by decide) rfl (RW.N (HE.out.only0 (by (repeat (first | with_reducible exact Only.refl _ _ | with_reducible exact Only.refl [] w6 | with_reducible refine Only.drew ?_ | with_reducible refine Only.drewN ?_ _ | with_reducible refine Only.alloc ?_ _ | ((with_reducible refine Only.setCell ?_ ?_ _); rotate_left; (focus (first | (left; simp; done) | (right; simp; done) | (right; simp; omega) | (right; omega))))))))) rfl (by first | exact Blk.new _ _ _ | exact Blk.new2 _ _ _ _ | exact Blk.new3 _ _ _ _ _ | exact Blk.new4 _ _ _ _ _ _ _) rfl (by simp [Value.oneCell']) (by unfold maxLen; omega) (by omega) ?_)
              intro v7 w7 hS7 hg7 hat7
              have hP7 := RW.end_ (v7 := v7) (HE.out.only0 (by (repeat (first | with_reducible exact Only.refl _ _ | with_reducible exact Only.refl [] w6 | with_reducible refine Only.drew ?_ | with_reducible refine Only.drewN ?_ _ | with_reducible refine Only.alloc ?_ _ | ((with_reducible refine Only.setCell ?_ ?_ _); rotate_left; (focus (first | (left; simp; done) | (right; simp; done) | (right; simp; omega) | (right; omega)))))))) (by rw [HHW.out, HNUM.out]; exact hS7) hg7 (by
                rcases hat7 with e | e
                · exact .inl e
                · right; rw [e] <;> simp)
              have HP7 := Lib.hid hP7.1
              obtain ⟨pa, pc, hv7, _, _⟩ := hS7.shape
              subst hv7
              obtain ⟨hcq7, hfq7, hlq7⟩ := hP7.2.facts
              clear hS7 hg7 hat7 hP7
              go_wp2
              go_roundw
              case measure => simp [intOf]; omega
              case rel => exact ⟨k + 1, _, by omega, by go_num, HP7⟩
            · have HC := Lib.hid hC
              have HHW := Lib.hid hhw
              clear hC hhw
              go_wp2
              refine Lex.wp_region_text (by kernel_rfl) (by kernel_rfl) ?_
              go_wp2
              refine Lex.sq_done (by rfl) ?_
              go_wp2_with fail
              refine (HC.out _ (by (repeat (first | with_reducible exact Only.refl _ _ | with_reducible exact Only.refl [] w6 | with_reducible refine Only.drew ?_ | with_reducible refine Only.drewN ?_ _ | with_reducible refine Only.alloc ?_ _ | ((with_reducible refine Only.setCell ?_ ?_ _); rotate_left; (focus (first | (left; simp; done) | (right; simp; done) | (right; simp; omega) | (right; omega)))))))).mono ?_
              clear HC
              rintro e w8 ⟨rfl, hO8⟩
              have hO68 : Only [] w6 w8 := Only.trans (by (repeat (first | with_reducible exact Only.refl _ _ | with_reducible exact Only.refl [] w6 | with_reducible refine Only.drew ?_ | with_reducible refine Only.drewN ?_ _ | with_reducible refine Only.alloc ?_ _ | ((with_reducible refine Only.setCell ?_ ?_ _); rotate_left; (focus (first | (left; simp; done) | (right; simp; done) | (right; simp; omega) | (right; omega))))))) hO8
              have HO8 := Lib.hid hO68
              have hB8 : Blk w8 w6.heap.size 49 #[iv 0, iv num] := ((Blk.new w6 49 #[iv 0, iv num]).drew).only hO8 (by simp)
              obtain ⟨hcb8, hfb8, hlb8⟩ := hB8.facts
              obtain ⟨hcq8, hfq8, hlq8⟩ := (HE.out.only0 hO68).B.facts
              have hneq : gq ≠ w6.heap.size := by omega
              clear hO8 hO68 hB8
              by_cases hv0 : v = 0
              · subst hv0
                rw [if_pos rfl] at HHW
                go_wp2_with (at_builtin; refine wpList_append_one (news := [iv 3, iv num]) rfl (.tmp 154) (.tmp 156) 30 rfl 49 j49 _ 2 16 Try.underlying30 ui uz0 uz1 uz2 rfl (by decide) rfl (RW.N (HE.out.only0 (by (repeat (first | with_reducible exact Only.refl _ _ | with_reducible exact HO8.out | with_reducible refine Only.drew ?_ | with_reducible refine Only.drewN ?_ _ | with_reducible refine Only.alloc ?_ _ | ((with_reducible refine Only.setCell ?_ ?_ _); rotate_left; (focus (first | (left; simp; done) | (right; simp; done) | (right; simp; omega) | (right; omega))))))))) rfl (by first | exact Blk.new _ _ _ | exact Blk.new2 _ _ _ _ | exact Blk.new3 _ _ _ _ _ | exact Blk.new4 _ _ _ _ _ _ _) rfl (by simp [Value.oneCell']) (by unfold maxLen; omega) (by omega) ?_)
                intro v7 w7 hS7 hg7 hat7
                have hP7 := RW.end_ (v7 := v7) (HE.out.only0 (by (repeat (first | with_reducible exact Only.refl _ _ | with_reducible exact HO8.out | with_reducible refine Only.drew ?_ | with_reducible refine Only.drewN ?_ _ | with_reducible refine Only.alloc ?_ _ | ((with_reducible refine Only.setCell ?_ ?_ _); rotate_left; (focus (first | (left; simp; done) | (right; simp; done) | (right; simp; omega) | (right; omega)))))))) (by rw [HHW.out, HNUM.out]; exact hS7) hg7 (by
                  rcases hat7 with e | e
                  · exact .inl e
                  · right; rw [e] <;> simp)
                have HP7 := Lib.hid hP7.1
                obtain ⟨pa, pc, hv7, _, _⟩ := hS7.shape
                subst hv7
                obtain ⟨hcq7, hfq7, hlq7⟩ := hP7.2.facts
                clear hS7 hg7 hat7 hP7
                go_wp2
                go_roundw
                case measure => simp [intOf]; omega
                case rel => exact ⟨k + 1, _, by omega, by go_num, HP7⟩
              · have hz : (v == 0) = false := by simpa using hv0
                rw [if_neg hv0] at HHW
                go_wp2_with (at_builtin; refine wpList_append_one (news := [iv v, iv num]) rfl (.tmp 154) (.tmp 156) 30 rfl 49 j49 _ 2 16 Try.underlying30 ui uz0 uz1 uz2 rfl (by decide) rfl (RW.N (HE.out.only0 (by (repeat (first | with_reducible exact Only.refl _ _ | with_reducible exact HO8.out | with_reducible refine Only.drew ?_ | with_reducible refine Only.drewN ?_ _ | with_reducible refine Only.alloc ?_ _ | ((with_reducible refine Only.setCell ?_ ?_ _); rotate_left; (focus (first | (left; simp; done) | (right; simp; done) | (right; simp; omega) | (right; omega))))))))) rfl (by first | exact Blk.new _ _ _ | exact Blk.new2 _ _ _ _ | exact Blk.new3 _ _ _ _ _ | exact Blk.new4 _ _ _ _ _ _ _) rfl (by simp [Value.oneCell']) (by unfold maxLen; omega) (by omega) ?_)
                intro v7 w7 hS7 hg7 hat7
                have hP7 := RW.end_ (v7 := v7) (HE.out.only0 (by (repeat (first | with_reducible exact Only.refl _ _ | with_reducible exact HO8.out | with_reducible refine Only.drew ?_ | with_reducible refine Only.drewN ?_ _ | with_reducible refine Only.alloc ?_ _ | ((with_reducible refine Only.setCell ?_ ?_ _); rotate_left; (focus (first | (left; simp; done) | (right; simp; done) | (right; simp; omega) | (right; omega)))))))) (by rw [HHW.out, HNUM.out]; exact hS7) hg7 (by
                  rcases hat7 with e | e
                  · exact .inl e
                  · right; rw [e] <;> simp)
                have HP7 := Lib.hid hP7.1
                obtain ⟨pa, pc, hv7, _, _⟩ := hS7.shape
                subst hv7
                obtain ⟨hcq7, hfq7, hlq7⟩ := hP7.2.facts
                clear hS7 hg7 hat7 hP7
                go_wp2
                go_roundw
                case measure => simp [intOf]; omega
                case rel => exact ⟨k + 1, _, by omega, by go_num, HP7⟩
          · obtain rfl : k = sF.n := by omega
            obtain ⟨tta, ttc, htt, ct0⟩ := HE.out.L.tasks0
            have hb8 : Blk w6 w.heap.size 33 #[iv 0, .slice none 0 0, .slice none 0 0, .slice none 0 0, .slice none 0 0] := (HE.out.L.bl.block _ hsz).trans HB1.out
            have HB8 := Lib.hid hb8
            obtain ⟨hc8, hf8, hl8⟩ := hb8.facts
            have hne8 : w.heap.size ≠ gq := by
              have := HE.out.ge
              omega
            clear hb8
            go_wp2
            have ho8 : Only [w.heap.size] w6 (((((w6.setCell ⟨w.heap.size, 0, none⟩ (iv sF.trace.length)).setCell ⟨w.heap.size, 1, none⟩ (.slice ta sF.trace.length tc)).setCell ⟨w.heap.size, 2, none⟩ (.slice rga 8 rgc)).setCell ⟨w.heap.size, 3, none⟩ (.slice na sF.n nc)).setCell ⟨w.heap.size, 4, none⟩ (.slice qa k4 qc)) := (((((Only.refl _ w6).setCell (p := ⟨w.heap.size, 0, none⟩) (.inl (by simp)) _).setCell (p := ⟨w.heap.size, 1, none⟩) (.inl (by simp)) _).setCell (p := ⟨w.heap.size, 2, none⟩) (.inl (by simp)) _).setCell (p := ⟨w.heap.size, 3, none⟩) (.inl (by simp)) _).setCell (p := ⟨w.heap.size, 4, none⟩) (.inl (by simp)) _
            refine bodyPost_ret (v := .tuple #[.agg #[iv sF.trace.length, .slice ta sF.trace.length tc, .slice rga 8 rgc, .slice na sF.n nc, .slice qa k4 qc], iv 0]) (results2 rfl (res_blk Try.underlying33 (by kernel_rfl) rfl (cs := [iv sF.trace.length, .slice ta sF.trace.length tc, .slice rga 8 rgc, .slice na sF.n nc, .slice qa k4 qc]) ?_) (res_tmp rfl)) rfl ⟨_, _, _, _, rfl, ?_, ?_⟩
            · (repeat' (first | with_reducible exact HB8.out | with_reducible apply Blk.drew | with_reducible apply Blk.drewN | with_reducible apply Blk.alloc | ((with_reducible apply Blk.far); rotate_left; (focus (simp <;> omega))) | with_reducible apply Blk.set' | with_reducible exact SetEq.rfl' | (simp [SetEq]; done) | (simp [SetEq]; omega)))
            · exact HE.out.rd HU4.out HB8.out ho8
            · have g1 : Only [] w1 w6 := Only.of_below HE.out.L.bl []
              have g2 : Only [] w w6 := HO.out.trans g1
              exact g2.trans' ho8 (fun i hi => by
                obtain rfl : i = w.heap.size := by simpa using hi
                exact .inr (Nat.le_refl _))
end Go.Proofs.Ytompelilflckkaa
