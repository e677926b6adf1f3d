/-
  SchedSplit: its walk.
-/
import Derived.Test.YtompelilflckkaaXf
namespace Go.Proofs.Ytompelilflckkaa
open Go.RowKit Go.Fl

theorem info3x : (Try.prog.info? 3).map (fun i => (i.zero, i.size, i.bytes)) = some (some (iv 0), 1, 8) := by kernel_rfl
set_option maxRecDepth 100000 in
set_option maxHeartbeats 12800000 in
theorem split_ok {w : World} {tv pv mv : Value} {acts : List (List A)} {ps ms : List Int} (room cut : Int) (hT : TasksV w.heap.size w tv acts) (hp : Row intv w pv ps) (hpo : ∀ g, pv.ownBlock = some g → g < w.heap.size) (hm : Row intv w mv ms) (hmo : ∀ g, mv.ownBlock = some g → g < w.heap.size) :
    Calls Try.prog 4 #[tv, iv room, pv, iv cut, mv] w fun e w' => e = .returned (.bool true) ∧ Only [] w w' := by
  obtain ⟨j3, si, sz0, sz1, sz2⟩ := info_parts info3x
  have HT := Lib.hid hT
  have HP := Lib.hid hp
  have HM := Lib.hid hm
  have HPO := Lib.hid hpo
  have HMO := Lib.hid hmo
  have HBG := Lib.hid (begun_ok w)
  obtain ⟨ta, tc, rfl, _, _, _⟩ := hT
  obtain ⟨pa, pc, rfl, hpc, hpm, _⟩ := hp
  obtain ⟨ma, mc, rfl, _, _, _⟩ := hm
  clear hpo hmo
  go_enter Try.func4, Try.ntmps4
  go_wp2_with fail
  refine HBG.out.mono ?_
  clear HBG
  rintro e w1 ⟨rfl, hO1⟩
  have HO1 := Lib.hid hO1
  clear hO1
  by_cases h1 : 60 < ps.length
  · have h1z : (60 : Int) < (ps.length : Int) := by omega
    go_wp2
    exact bodyPost_ret (results_tmp rfl _ _ _) rfl ⟨rfl, HO1.out⟩
  have h1z : ¬ (60 : Int) < (ps.length : Int) := by omega
  by_cases h2 : 60 < ms.length
  · have h2z : (60 : Int) < (ms.length : Int) := by omega
    go_wp2
    exact bodyPost_ret (results_tmp rfl _ _ _) rfl ⟨rfl, HO1.out⟩
  have h2z : ¬ (60 : Int) < (ms.length : Int) := by omega
  by_cases h3 : 20 < acts.length
  · have h3z : (20 : Int) < (acts.length : Int) := by omega
    go_wp2
    exact bodyPost_ret (results_tmp rfl _ _ _) rfl ⟨rfl, HO1.out⟩
  have h3z : ¬ (20 : Int) < (acts.length : Int) := by omega
  have HT1 := Lib.hid (show TasksV w1.heap.size w1 (.slice ta acts.length tc) acts from (HT.out.below (Below.of_only HO1.out (Nat.le_refl _))).here)
  by_cases hk : askedM acts room ps 200 = 0
  · have HK := Lib.hid hk
    have HR := Lib.hid (run_ok room 200 HT1.out (HP.out.only HO1.out) (fun g hg => Nat.lt_of_lt_of_le (HPO.out g hg) HO1.out.size) hk)
    clear hk
    go_wp2_with fail
    refine HR.out.mono ?_
    clear HR
    rintro e w2 ⟨v, rfl, hV, hB⟩
    have hV : RunV w1.heap.size w2 (all (ps.map Int.toNat) 200 (begin_ acts room)) v := hV
    have HO2 := Lib.hid (HO1.out.trans (Only.of_below hB []))
    have HO12 := Lib.hid (Only.of_below hB [])
    clear hB
    obtain ⟨tr, rg, en, qs, hv, hrd⟩ := hV.rd
    have HRD := Lib.hid hrd
    obtain ⟨⟨xa, xc, hx⟩, ⟨ra, rc, hxr⟩, ⟨ea, ec, hxe⟩, qa, qc, hxq⟩ := hrd.shapes
    have HPK := Lib.hid (fun i (hi : i < (all (ps.map Int.toNat) 200 (begin_ acts room)).trace.length) (hp : i < (ps.map Int.toNat).length) => split_pick (s := begin_ acts room) (picks := ps.map Int.toNat) (m := 200) rfl hi hp)
    have HCT := Lib.hid (fun cut hc => split_cut (s := begin_ acts room) (picks := ps.map Int.toNat) (m := 200) rfl (cut := cut) hc)
    have HMR := Lib.hid (fun h1 h2 => split_more (s := begin_ acts room) (picks := ps.map Int.toNat) (m := 200) rfl h1 h2 (ms.map Int.toNat))
    have h200 : (all (ps.map Int.toNat) 200 (begin_ acts room)).trace.length ≤ 200 := by
      obtain ⟨t, h1, h2, _⟩ := all_pre (ps.map Int.toNat) 200 (begin_ acts room)
      rw [h1, List.length_append]
      exact Nat.le_trans (by rw [show (begin_ acts room).trace = [] from rfl]; simp) h2
    obtain ⟨s, hs⟩ : ∃ s, s = all (ps.map Int.toNat) 200 (begin_ acts room) := ⟨_, rfl⟩
    rw [← hs] at hv HRD HPK HCT HMR hx hxe h200
    obtain ⟨L, HL⟩ : ∃ L, Hid (s.trace = L) := ⟨_, Lib.hid rfl⟩
    rw [HL.out] at hv hx h200 HPK HCT HMR
    clear hV hrd
    subst hx hxr hxe hxq
    subst hv
    have HS := Lib.hid hs
    clear hs
    have HB1 : Hid (Blk (w2.alloc (.cells #[iv L.length, .slice xa L.length xc, .slice ra 8 rc, .slice ea s.n ec, .slice qa 4 qc] 33)) w2.heap.size 33 #[iv L.length, .slice xa L.length xc, .slice ra 8 rc, .slice ea s.n ec, .slice qa 4 qc]) := Lib.hid (Blk.new _ _ _)
    have HRB : Hid (RB (w2.alloc (.cells #[iv L.length, .slice xa L.length xc, .slice ra 8 rc, .slice ea s.n ec, .slice qa 4 qc] 33)) s w2.heap.size) := Lib.hid ⟨.slice xa L.length xc, .slice ra 8 rc, .slice ea s.n ec, .slice qa 4 qc, by rw [HL.out]; exact HB1.out, HRD.out.only ((Only.refl [] w2).alloc _)⟩
    have HO3 := Lib.hid (HO2.out.alloc (.cells #[iv L.length, .slice xa L.length xc, .slice ra 8 rc, .slice ea s.n ec, .slice qa 4 qc] 33))
    have HOG := Lib.hid HO2.out.size
    by_cases hc0 : 0 ≤ cut
    · by_cases hc1 : cut ≤ L.length
      · obtain ⟨c, rfl⟩ := nat_of hc0
        have hOw3 : Only [] w1 (w2.alloc (.cells #[iv L.length, .slice xa L.length xc, .slice ra 8 rc, .slice ea s.n ec, .slice qa 4 qc] 33)) := HO12.out.alloc _
        have HT3 := Lib.hid (show TasksV (w2.alloc (.cells #[iv L.length, .slice xa L.length xc, .slice ra 8 rc, .slice ea s.n ec, .slice qa 4 qc] 33)).heap.size (w2.alloc (.cells #[iv L.length, .slice xa L.length xc, .slice ra 8 rc, .slice ea s.n ec, .slice qa 4 qc] 33)) (.slice ta acts.length tc) acts from (HT.out.below (Below.of_only HO3.out (Nat.le_refl _))).here)
        have HR2 := Lib.hid (run_ok room c HT3.out (HP.out.only HO3.out) (fun g hg => Nat.lt_of_lt_of_le (HPO.out g hg) HO3.out.size) (asked_of2 HK.out (by omega) (by omega) (by omega) (asked_zero HK.out).2.2.2.2.2.2.1))
        rw [Int.toNat_natCast] at HR2
        obtain ⟨hc2, hc3⟩ := HCT.out c (by omega)
        go_wp2_with fail
        refine HR2.out.mono ?_
        clear HR2 HT3 hOw3
        rintro e w4 ⟨v2, rfl, hV2, hB2⟩
        have HW4 := Lib.hid (Only.of_below hB2 [])
        clear hB2
        generalize all (ps.map Int.toNat) c (begin_ acts room) = s2 at *
        obtain ⟨tr2, rg2, en2, qs2, hv2, hrd2⟩ := hV2.rd
        obtain ⟨⟨x2, xc2, hx2⟩, ⟨r2, rc2, hr2⟩, ⟨e2, ec2, he2⟩, q2, qc2, hq2⟩ := hrd2.shapes
        have ht2 := hrd2.tr
        obtain ⟨L2, hL2⟩ : ∃ L2, s2.trace = L2 := ⟨_, rfl⟩
        rw [hL2] at hc2 hc3 hv2 hx2 ht2
        obtain ⟨tr4, rg4, en4, qs4, hb4, hrd4⟩ := (HRB.out.only HW4.out).it
        have ht4 := hrd4.tr
        rw [HL.out] at ht4 hb4
        have HRB4 := Lib.hid (HRB.out.only HW4.out)
        have HO4 := Lib.hid (HO3.out.trans HW4.out)
        rw [hc3] at hv2 hx2
        have HC3 := Lib.hid hc3
        have HTA := Lib.hid ht2
        have HTB := Lib.hid ht4
        have HL2 := Lib.hid hc2
        have HBK := Lib.hid hb4
        obtain ⟨hcb, _, hlb⟩ := hb4.facts
        clear hV2 hrd2 hrd4 ht2 ht4 hL2 hc2 hc3 hb4
        subst hx2 hr2 he2 hq2
        subst hv2
        generalize w2.alloc (.cells #[.int .i64 L.length, .slice xa L.length xc, .slice ra 8 rc, .slice ea s.n ec, .slice qa 4 qc] 33) = w3 at *
        generalize w2.heap.size = G at *
        clear HB1 HRD HO2 HO1 HRB
        go_wp2
        go_loopw [15] (fun z wr => ∃ j : Nat, j ≤ c ∧ z = .int .i64 j ∧ Hid (Only [] (w4.alloc (.cells #[.int .i64 c, .slice x2 c xc2, .slice r2 8 rc2, .slice e2 s2.n ec2, .slice q2 4 qc2] 33)) wr)) (fun z _ => c - (intOf z).toNat)
        case atStart => exact ⟨0, Nat.zero_le _, rfl, Lib.hid (Only.refl _ _)⟩
        case round =>
          obtain ⟨wy, hwo⟩ : ∃ x : World, x = wr := ⟨_, rfl⟩
          subst hwo
          obtain ⟨j, hj, rfl, HOj⟩ := hrel
          have HOj4 := Lib.hid (((Only.refl [] w4).alloc (.cells #[.int .i64 c, .slice x2 c xc2, .slice r2 8 rc2, .slice e2 s2.n ec2, .slice q2 4 qc2] 33)).trans HOj.out)
          by_cases hjl : j < c
          · have hjz : (j : Int) < (c : Int) := by omega
            obtain ⟨m1, _, l1⟩ := (HBK.out.only HOj4.out (by simp)).facts
            obtain ⟨m2, _, l2⟩ := ((Blk.new w4 33 #[.int .i64 c, .slice x2 c xc2, .slice r2 8 rc2, .slice e2 s2.n ec2, .slice q2 4 qc2]).only HOj.out (by simp)).facts
            obtain ⟨a, c', ha, _, hta⟩ := HTA.out
            obtain ⟨g1, o1, hg, hgl1, hx1⟩ := hta (by rw [HC3.out]; omega)
            injection ha with ha _ hac
            subst ha
            subst hac
            subst hg
            obtain ⟨a, c', ha, _, htb⟩ := HTB.out
            obtain ⟨g2, o2, hg, hgl2, hx2⟩ := htb (by omega)
            subst hg
            subst ha
            have hjL2 : j < L2.length := by rw [HC3.out]; exact hjl
            have hjL : j < L.length := by omega
            have e : L2[j] = L[j] := by
              have h := HL2.out
              subst h
              exact List.getElem_take
            have x1 := (HOj4.out.cell (p := ⟨g1, o1 + j * 2, none⟩) hgl1 (by simp)).trans (hx1 j hjL2).1
            have x1b := (HOj4.out.cell (p := ⟨g1, o1 + j * 2 + 1, none⟩) hgl1 (by simp)).trans (hx1 j hjL2).2
            have y1 := (HOj4.out.cell (p := ⟨g2, o2 + j * 2, none⟩) hgl2 (by simp)).trans (hx2 j hjL).1
            have y1b := (HOj4.out.cell (p := ⟨g2, o2 + j * 2 + 1, none⟩) hgl2 (by simp)).trans (hx2 j hjL).2
            rw [e] at x1 x1b
            clear e hx1 hx2 hta htb HTA HTB HL2 HBK
            generalize (L[j].1 : Int) = u1 at x1 y1
            generalize (L[j].2 : Int) = u2 at x1b y1b
            have hjL2z : (j : Int) < (L.length : Int) := by omega
            clear hcb hlb
            go_wp2
            go_quiet (fail)
            go_wp2
            go_roundw
            case measure => simp [intOf]; omega
            case rel => exact ⟨j + 1, by omega, by go_num, Lib.hid (HOj.out.drewN _)⟩
          · obtain rfl : j = c := by omega
            have HRB := Lib.hid (HRB4.out.only HOj4.out)
            have HOY := Lib.hid (HO4.out.trans HOj4.out)
            clear HRB4 HTA HTB HL2 HBK hcb hlb
            go_wp2
            go_loopw [16] (fun z wr => ∃ i : Nat, i ≤ L.length ∧ z = .int .i64 i ∧ Hid (Only [] wy wr)) (fun z _ => L.length - (intOf z).toNat)
            case atStart => exact ⟨0, Nat.zero_le _, rfl, Lib.hid (Only.refl _ _)⟩
            case round =>
              obtain ⟨w5, hwo⟩ : ∃ x : World, x = wr := ⟨_, rfl⟩
              subst hwo
              obtain ⟨i, hi, rfl, HO⟩ := hrel
              have HOW := Lib.hid (HOY.out.trans HO.out)
              obtain ⟨tr, rg, en, qs, hb, hrd⟩ := (HRB.out.only HO.out).it
              obtain ⟨hcb, _, hlb⟩ := hb.facts
              rw [HL.out] at hcb
              clear hb hrd
              by_cases hil : i < L.length
              · have hilz : (i : Int) < (L.length : Int) := by omega
                by_cases hip : i < ps.length
                · have hipz : (i : Int) < (ps.length : Int) := by omega
                  obtain ⟨pa', pc', hpe, _, _, hpcell⟩ := HP.out
                  obtain ⟨gp, op, hga, hgp, hpx⟩ := hpcell (by omega)
                  injection hpe with hpe1 _ hpe3
                  subst hpe1
                  subst hpe3
                  subst hga
                  have hpi := hpx i hip
                  have HPX := Lib.hid hpi
                  clear hpcell hpx hpi
                  have HRR := Lib.hid (ready_run room (HT.out.below (Below.of_only HOW.out (Nat.le_refl _))).here (row_take (HP.out.only HOW.out) (i := i) (by omega)) (fun g hg => Nat.lt_of_lt_of_le (HPO.out g (by simpa [Value.ownBlock] using hg)) HOW.out.size) (asked_of2 HK.out (by omega) (by omega) (by rw [List.length_take]; omega) (fun k hk => (asked_zero HK.out).2.2.2.2.2.2.1 k (List.mem_of_mem_take hk))))
                  go_wp2_with fail
                  refine HRR.out.mono ?_
                  clear HRR
                  rintro e w6 ⟨u, rfl, hS, _, hB⟩
                  have HO6 := Lib.hid (HO.out.trans (Only.of_below hB []))
                  have HOW6 := Lib.hid (HOY.out.trans HO6.out)
                  have hpk := HPK.out i hil (by rw [List.length_map]; exact hip)
                  rw [List.map_take, List.length_take, Nat.min_eq_left (by omega)] at hS
                  obtain ⟨R, hR⟩ : ∃ R, R = ready (all (List.take i (List.map Int.toNat ps)) i (begin_ acts room)) := ⟨_, rfl⟩
                  rw [← hR] at hS hpk
                  clear hR hB hcb hlb
                  have hRl : 0 < R.length := List.length_pos_iff.2 hpk.1
                  obtain ⟨gu, ou, cu, hu, hgu, _, _, hcu, _⟩ := hS.form hRl
                  subst hu
                  have hx0 : 0 ≤ ps[i] := (asked_zero HK.out).2.2.2.2.2.2.1 _ (List.getElem_mem _)
                  obtain ⟨x, hx⟩ := nat_of hx0
                  have hmod : x % R.length < R.length := Nat.mod_lt _ hRl
                  have hpk2 : L[i].1 = R[x % R.length] := by
                    rw [hpk.2, List.getElem_map, hx, Int.toNat_natCast, List.getD_eq_getElem?_getD, List.getElem?_eq_getElem hmod]; rfl
                  have hcell : w6.cell? ⟨gu, ou + x % R.length, none⟩ = some (iv ((L[i].1 : Nat) : Int)) := by
                    rw [hcu _ (by omega), hpk2]
                    unfold nats
                    rw [List.getElem?_map, List.getElem?_eq_getElem hmod]; rfl
                  have hpcell : w6.cell? ⟨gp, op + i, none⟩ = some (iv (x : Int)) := by
                    rw [← hx]
                    exact (HOW6.out.cell (p := ⟨gp, op + i, none⟩) hgp (by simp)).trans HPX.out
                  obtain ⟨tr6, rg6, en6, qs6, hb6, hrd6⟩ := (HRB.out.only HO6.out).it
                  have ht6 := hrd6.tr
                  rw [HL.out] at ht6 hb6
                  obtain ⟨a6, c6, ha6, _, hc60⟩ := ht6
                  obtain ⟨gt, ot, hg6, hgt, hc6⟩ := hc60 (by omega)
                  clear hc60
                  subst hg6
                  subst ha6
                  have htc := (hc6 i hil).1
                  obtain ⟨hcb6, _, hlb6⟩ := hb6.facts
                  clear hb6 hrd6 hc6 hcu hpk hpk2 hx hx0 hS
                  generalize L[i].1 = tk at hcell htc
                  have htm : ((x : Int)).tmod (R.length : Int) = ((x % R.length : Nat) : Int) := rfl
                  have hz : ((R.length : Int) == 0) = false := by rw [beq_eq_false_iff_ne]; omega
                  generalize hxm : x % R.length = xm at htm hcell hmod
                  clear hxm
                  go_wp2
                  go_quiet (fail)
                  go_wp2
                  go_roundw
                  case measure => simp [intOf]; omega
                  case rel => exact ⟨i + 1, by omega, by go_num, Lib.hid (HO6.out.drewN _)⟩
                · have hipz : ¬ ((i : Int) < (ps.length : Int)) := by omega
                  have t2z : ¬ ((L.length : Int) ≤ (ps.length : Int)) := by omega
                  by_cases t1 : L.length < 200
                  · have t1z : (L.length : Int) < 200 := by omega
                    go_wp2
                    exact bodyPost_ret (results_tmp rfl _ _ _) rfl ⟨rfl, HOW.out⟩
                  · have t1z : ¬ (L.length : Int) < 200 := by omega
                    go_wp2
                    exact bodyPost_ret (results_tmp rfl _ _ _) rfl ⟨rfl, HOW.out⟩
              · have hilz : ¬ ((i : Int) < (L.length : Int)) := by omega
                by_cases t1 : L.length < 200
                · have t1z : (L.length : Int) < 200 := by omega
                  by_cases t2 : L.length ≤ ps.length
                  · have t2z : (L.length : Int) ≤ (ps.length : Int) := by omega
                    go_wp2_with (at_builtin; refine wpList_append_row (f := intv) rfl (.const (.slice none 0 0)) (.tmp 161) 23 rfl 3 j3 _ 8 Try.underlying23 si sz0 sz1 sz2 rfl rfl (Sl.nil _ _ _) rfl (HP.out.only HOW.out) (fun _ => rfl) (by unfold maxLen; omega) (by omega) ?_)
                    intro v7 w7 hS7 hg7 hat7
                    have HS7 := Lib.hid hS7
                    have HO7 := Lib.hid (HOW.out.grown hg7 (fun k hk => by cases hk))
                    have HB7 := Lib.hid (HRB.out.only (HO.out.grown hg7 (fun k hk => by cases hk)))
                    have HF7 := Lib.hid (show ∀ g, v7.ownBlock = some g → w5.heap.size ≤ g from fun g hg => by
                      rcases hat7 with e | e
                      · rw [e] at hg; cases hg
                      · rw [e] at hg; injection hg with hg; omega)
                    have HG7 := Lib.hid hg7
                    have HSZ7 := Lib.hid hg7.size
                    obtain ⟨b7, c7, hu7, _, _⟩ := hS7.shape
                    subst hu7
                    clear hS7 hg7 hat7 hcb hlb
                    go_wp2_with (at_builtin; refine wpList_append_row (f := intv) rfl (.tmp 162) (.tmp 163) 23 rfl 3 j3 _ 8 Try.underlying23 si sz0 sz1 sz2 rfl rfl HS7.out rfl (HM.out.only HO7.out) (fun _ => rfl) (by unfold maxLen; omega) (by omega) ?_)
                    intro v8 w8 hS8 hg8 hat8
                    have hO78 : Only [] w5 w8 := ((Only.refl [] w5).grown HG7.out (fun k hk => by cases hk)).grown hg8 (fun k hk => .inr (HF7.out k hk))
                    have HO8 := Lib.hid (HOW.out.trans hO78)
                    have HB8 := Lib.hid (HRB.out.only (HO.out.trans hO78))
                    have HR8 := Lib.hid (row_sl (f := intv) (l := ps ++ ms) (by rw [List.map_append]; exact hS8) (by simp))
                    have HF8 := Lib.hid (show ∀ g, v8.ownBlock = some g → g < w8.heap.size from hS8.lt)
                    have HT8 := Lib.hid ((HT.out.below (Below.of_only HO8.out (Nat.le_refl _))).here)
                    obtain ⟨b8, c8, hu8, _, _⟩ := hS8.shape
                    subst hu8
                    clear hS8 hg8 hat8 HS7 HF7 HO7 HB7 HG7 hO78
                    by_cases hk8 : askedM acts room (ps ++ ms) 200 = 0
                    · have HRN := Lib.hid (run_ok room 200 HT8.out HR8.out HF8.out hk8)
                      clear hk8 HR8 HF8 HT8
                      go_wp2_with fail
                      refine HRN.out.mono ?_
                      clear HRN
                      rintro e w9 ⟨v9, rfl, hV9, hB9⟩
                      have hV9 : RunV w8.heap.size w9 s v9 := by
                        have e := HMR.out t1 (by rw [List.length_map]; exact t2)
                        rw [← List.map_append] at e
                        rw [← e]
                        exact hV9
                      have HO9 := Lib.hid (HO8.out.trans (Only.of_below hB9 []))
                      have HB9 := Lib.hid (HB8.out.only (Only.of_below hB9 []))
                      clear HB8 HO8 hB9
                      obtain ⟨tr9, rg9, en9, qs9, hv9, hrd9⟩ := hV9.rd
                      obtain ⟨⟨x9, xc9, hx9⟩, ⟨r9, rc9, hr9⟩, ⟨e9, ec9, he9⟩, q9, qc9, hq9⟩ := hrd9.shapes
                      have HD9 := Lib.hid hrd9
                      obtain ⟨trA, rgA, enA, qsA, hbA, hrdA⟩ := HB9.out.it
                      obtain ⟨⟨xA, xcA, hxA⟩, ⟨rA, rcA, hrA⟩, ⟨eA, ecA, heA⟩, qA, qcA, hqA⟩ := hrdA.shapes
                      obtain ⟨hcA, _, hlA⟩ := hbA.facts
                      have HDA := Lib.hid hrdA
                      rw [HL.out] at hx9 hxA hv9 hcA
                      clear hV9 hrd9 hrdA hbA
                      subst hx9 hr9 he9 hq9 hxA hrA heA hqA
                      subst hv9
                      have hOA : Only [] w9 (w9.alloc (.cells #[.int .i64 L.length, .slice x9 L.length xc9, .slice r9 8 rc9, .slice e9 s.n ec9, .slice q9 4 qc9] 33)) := (Only.refl _ _).alloc _
                      have HEQ := Lib.hid (eq_ok (HD9.out.only hOA) (HDA.out.only hOA))
                      rw [HL.out] at HEQ
                      clear HD9 HDA hOA HB9
                      go_wp2_with fail
                      refine HEQ.out.mono ?_
                      clear HEQ
                      rintro e wA ⟨rfl, hOE⟩
                      have HOE := Lib.hid ((HO9.out.alloc (.cells #[.int .i64 L.length, .slice x9 L.length xc9, .slice r9 8 rc9, .slice e9 s.n ec9, .slice q9 4 qc9] 33)).trans hOE)
                      clear hOE
                      go_wp2
                      exact bodyPost_ret (results_tmp rfl _ _ _) rfl ⟨rfl, HOE.out⟩
                    · have HRN := Lib.hid (run_bad room 200 HT8.out HR8.out hk8)
                      have hz8 : (askedM acts room (ps ++ ms) 200 == 0) = false := by simpa using hk8
                      generalize askedM acts room (ps ++ ms) 200 = m8 at *
                      clear HR8 HF8 HT8
                      go_wp2_with fail
                      refine HRN.out.mono ?_
                      clear HRN
                      rintro e w9 ⟨rfl, hO9⟩
                      have HO9 := Lib.hid (HO8.out.trans hO9)
                      clear hO9
                      go_wp2
                      exact bodyPost_ret (results_tmp rfl _ _ _) rfl ⟨rfl, HO9.out.alloc _⟩
                  · have t2z : ¬ ((L.length : Int) ≤ (ps.length : Int)) := by omega
                    go_wp2
                    exact bodyPost_ret (results_tmp rfl _ _ _) rfl ⟨rfl, HOW.out⟩
                · have t1z : ¬ (L.length : Int) < 200 := by omega
                  go_wp2
                  exact bodyPost_ret (results_tmp rfl _ _ _) rfl ⟨rfl, HOW.out⟩
      · go_wp2
        generalize w2.alloc (.cells #[.int .i64 L.length, .slice xa L.length xc, .slice ra 8 rc, .slice ea s.n ec, .slice qa 4 qc] 33) = w3 at *
        generalize w2.heap.size = G at *
        clear HB1 HRD HO2 HO1
        go_loopw [16] (fun z wr => ∃ i : Nat, i ≤ L.length ∧ z = .int .i64 i ∧ Hid (Only [] w3 wr)) (fun z _ => L.length - (intOf z).toNat)
        case atStart => exact ⟨0, Nat.zero_le _, rfl, Lib.hid (Only.refl _ _)⟩
        case round =>
          obtain ⟨w5, hwo⟩ : ∃ x : World, x = wr := ⟨_, rfl⟩
          subst hwo
          obtain ⟨i, hi, rfl, HO⟩ := hrel
          have HOW := Lib.hid (HO3.out.trans HO.out)
          obtain ⟨tr, rg, en, qs, hb, hrd⟩ := (HRB.out.only HO.out).it
          obtain ⟨hcb, _, hlb⟩ := hb.facts
          rw [HL.out] at hcb
          clear hb hrd
          by_cases hil : i < L.length
          · have hilz : (i : Int) < (L.length : Int) := by omega
            by_cases hip : i < ps.length
            · have hipz : (i : Int) < (ps.length : Int) := by omega
              obtain ⟨pa', pc', hpe, _, _, hpcell⟩ := HP.out
              obtain ⟨gp, op, hga, hgp, hpx⟩ := hpcell (by omega)
              injection hpe with hpe1 _ hpe3
              subst hpe1
              subst hpe3
              subst hga
              have hpi := hpx i hip
              have HPX := Lib.hid hpi
              clear hpcell hpx hpi
              have HRR := Lib.hid (ready_run room (HT.out.below (Below.of_only HOW.out (Nat.le_refl _))).here (row_take (HP.out.only HOW.out) (i := i) (by omega)) (fun g hg => Nat.lt_of_lt_of_le (HPO.out g (by simpa [Value.ownBlock] using hg)) HOW.out.size) (asked_of2 HK.out (by omega) (by omega) (by rw [List.length_take]; omega) (fun k hk => (asked_zero HK.out).2.2.2.2.2.2.1 k (List.mem_of_mem_take hk))))
              go_wp2_with fail
              refine HRR.out.mono ?_
              clear HRR
              rintro e w6 ⟨u, rfl, hS, _, hB⟩
              have HO6 := Lib.hid (HO.out.trans (Only.of_below hB []))
              have HOW6 := Lib.hid (HO3.out.trans HO6.out)
              have hpk := HPK.out i hil (by rw [List.length_map]; exact hip)
              rw [List.map_take, List.length_take, Nat.min_eq_left (by omega)] at hS
              obtain ⟨R, hR⟩ : ∃ R, R = ready (all (List.take i (List.map Int.toNat ps)) i (begin_ acts room)) := ⟨_, rfl⟩
              rw [← hR] at hS hpk
              clear hR hB hcb hlb
              have hRl : 0 < R.length := List.length_pos_iff.2 hpk.1
              obtain ⟨gu, ou, cu, hu, hgu, _, _, hcu, _⟩ := hS.form hRl
              subst hu
              have hx0 : 0 ≤ ps[i] := (asked_zero HK.out).2.2.2.2.2.2.1 _ (List.getElem_mem _)
              obtain ⟨x, hx⟩ := nat_of hx0
              have hmod : x % R.length < R.length := Nat.mod_lt _ hRl
              have hpk2 : L[i].1 = R[x % R.length] := by
                rw [hpk.2, List.getElem_map, hx, Int.toNat_natCast, List.getD_eq_getElem?_getD, List.getElem?_eq_getElem hmod]; rfl
              have hcell : w6.cell? ⟨gu, ou + x % R.length, none⟩ = some (iv ((L[i].1 : Nat) : Int)) := by
                rw [hcu _ (by omega), hpk2]
                unfold nats
                rw [List.getElem?_map, List.getElem?_eq_getElem hmod]; rfl
              have hpcell : w6.cell? ⟨gp, op + i, none⟩ = some (iv (x : Int)) := by
                rw [← hx]
                exact (HOW6.out.cell (p := ⟨gp, op + i, none⟩) hgp (by simp)).trans HPX.out
              obtain ⟨tr6, rg6, en6, qs6, hb6, hrd6⟩ := (HRB.out.only HO6.out).it
              have ht6 := hrd6.tr
              rw [HL.out] at ht6 hb6
              obtain ⟨a6, c6, ha6, _, hc60⟩ := ht6
              obtain ⟨gt, ot, hg6, hgt, hc6⟩ := hc60 (by omega)
              clear hc60
              subst hg6
              subst ha6
              have htc := (hc6 i hil).1
              obtain ⟨hcb6, _, hlb6⟩ := hb6.facts
              clear hb6 hrd6 hc6 hcu hpk hpk2 hx hx0 hS
              generalize L[i].1 = tk at hcell htc
              have htm : ((x : Int)).tmod (R.length : Int) = ((x % R.length : Nat) : Int) := rfl
              have hz : ((R.length : Int) == 0) = false := by rw [beq_eq_false_iff_ne]; omega
              generalize hxm : x % R.length = xm at htm hcell hmod
              clear hxm
              go_wp2
              go_quiet (fail)
              go_wp2
              go_roundw
              case measure => simp [intOf]; omega
              case rel => exact ⟨i + 1, by omega, by go_num, Lib.hid (HO6.out.drewN _)⟩
            · have hipz : ¬ ((i : Int) < (ps.length : Int)) := by omega
              have t2z : ¬ ((L.length : Int) ≤ (ps.length : Int)) := by omega
              by_cases t1 : L.length < 200
              · have t1z : (L.length : Int) < 200 := by omega
                go_wp2
                exact bodyPost_ret (results_tmp rfl _ _ _) rfl ⟨rfl, HOW.out⟩
              · have t1z : ¬ (L.length : Int) < 200 := by omega
                go_wp2
                exact bodyPost_ret (results_tmp rfl _ _ _) rfl ⟨rfl, HOW.out⟩
          · have hilz : ¬ ((i : Int) < (L.length : Int)) := by omega
            by_cases t1 : L.length < 200
            · have t1z : (L.length : Int) < 200 := by omega
              by_cases t2 : L.length ≤ ps.length
              · have t2z : (L.length : Int) ≤ (ps.length : Int) := by omega
                go_wp2_with (at_builtin; refine wpList_append_row (f := intv) rfl (.const (.slice none 0 0)) (.tmp 161) 23 rfl 3 j3 _ 8 Try.underlying23 si sz0 sz1 sz2 rfl rfl (Sl.nil _ _ _) rfl (HP.out.only HOW.out) (fun _ => rfl) (by unfold maxLen; omega) (by omega) ?_)
                intro v7 w7 hS7 hg7 hat7
                have HS7 := Lib.hid hS7
                have HO7 := Lib.hid (HOW.out.grown hg7 (fun k hk => by cases hk))
                have HB7 := Lib.hid (HRB.out.only (HO.out.grown hg7 (fun k hk => by cases hk)))
                have HF7 := Lib.hid (show ∀ g, v7.ownBlock = some g → w5.heap.size ≤ g from fun g hg => by
                  rcases hat7 with e | e
                  · rw [e] at hg; cases hg
                  · rw [e] at hg; injection hg with hg; omega)
                have HG7 := Lib.hid hg7
                have HSZ7 := Lib.hid hg7.size
                obtain ⟨b7, c7, hu7, _, _⟩ := hS7.shape
                subst hu7
                clear hS7 hg7 hat7 hcb hlb
                go_wp2_with (at_builtin; refine wpList_append_row (f := intv) rfl (.tmp 162) (.tmp 163) 23 rfl 3 j3 _ 8 Try.underlying23 si sz0 sz1 sz2 rfl rfl HS7.out rfl (HM.out.only HO7.out) (fun _ => rfl) (by unfold maxLen; omega) (by omega) ?_)
                intro v8 w8 hS8 hg8 hat8
                have hO78 : Only [] w5 w8 := ((Only.refl [] w5).grown HG7.out (fun k hk => by cases hk)).grown hg8 (fun k hk => .inr (HF7.out k hk))
                have HO8 := Lib.hid (HOW.out.trans hO78)
                have HB8 := Lib.hid (HRB.out.only (HO.out.trans hO78))
                have HR8 := Lib.hid (row_sl (f := intv) (l := ps ++ ms) (by rw [List.map_append]; exact hS8) (by simp))
                have HF8 := Lib.hid (show ∀ g, v8.ownBlock = some g → g < w8.heap.size from hS8.lt)
                have HT8 := Lib.hid ((HT.out.below (Below.of_only HO8.out (Nat.le_refl _))).here)
                obtain ⟨b8, c8, hu8, _, _⟩ := hS8.shape
                subst hu8
                clear hS8 hg8 hat8 HS7 HF7 HO7 HB7 HG7 hO78
                by_cases hk8 : askedM acts room (ps ++ ms) 200 = 0
                · have HRN := Lib.hid (run_ok room 200 HT8.out HR8.out HF8.out hk8)
                  clear hk8 HR8 HF8 HT8
                  go_wp2_with fail
                  refine HRN.out.mono ?_
                  clear HRN
                  rintro e w9 ⟨v9, rfl, hV9, hB9⟩
                  have hV9 : RunV w8.heap.size w9 s v9 := by
                    have e := HMR.out t1 (by rw [List.length_map]; exact t2)
                    rw [← List.map_append] at e
                    rw [← e]
                    exact hV9
                  have HO9 := Lib.hid (HO8.out.trans (Only.of_below hB9 []))
                  have HB9 := Lib.hid (HB8.out.only (Only.of_below hB9 []))
                  clear HB8 HO8 hB9
                  obtain ⟨tr9, rg9, en9, qs9, hv9, hrd9⟩ := hV9.rd
                  obtain ⟨⟨x9, xc9, hx9⟩, ⟨r9, rc9, hr9⟩, ⟨e9, ec9, he9⟩, q9, qc9, hq9⟩ := hrd9.shapes
                  have HD9 := Lib.hid hrd9
                  obtain ⟨trA, rgA, enA, qsA, hbA, hrdA⟩ := HB9.out.it
                  obtain ⟨⟨xA, xcA, hxA⟩, ⟨rA, rcA, hrA⟩, ⟨eA, ecA, heA⟩, qA, qcA, hqA⟩ := hrdA.shapes
                  obtain ⟨hcA, _, hlA⟩ := hbA.facts
                  have HDA := Lib.hid hrdA
                  rw [HL.out] at hx9 hxA hv9 hcA
                  clear hV9 hrd9 hrdA hbA
                  subst hx9 hr9 he9 hq9 hxA hrA heA hqA
                  subst hv9
                  have hOA : Only [] w9 (w9.alloc (.cells #[.int .i64 L.length, .slice x9 L.length xc9, .slice r9 8 rc9, .slice e9 s.n ec9, .slice q9 4 qc9] 33)) := (Only.refl _ _).alloc _
                  have HEQ := Lib.hid (eq_ok (HD9.out.only hOA) (HDA.out.only hOA))
                  rw [HL.out] at HEQ
                  clear HD9 HDA hOA HB9
                  go_wp2_with fail
                  refine HEQ.out.mono ?_
                  clear HEQ
                  rintro e wA ⟨rfl, hOE⟩
                  have HOE := Lib.hid ((HO9.out.alloc (.cells #[.int .i64 L.length, .slice x9 L.length xc9, .slice r9 8 rc9, .slice e9 s.n ec9, .slice q9 4 qc9] 33)).trans hOE)
                  clear hOE
                  go_wp2
                  exact bodyPost_ret (results_tmp rfl _ _ _) rfl ⟨rfl, HOE.out⟩
                · have HRN := Lib.hid (run_bad room 200 HT8.out HR8.out hk8)
                  have hz8 : (askedM acts room (ps ++ ms) 200 == 0) = false := by simpa using hk8
                  generalize askedM acts room (ps ++ ms) 200 = m8 at *
                  clear HR8 HF8 HT8
                  go_wp2_with fail
                  refine HRN.out.mono ?_
                  clear HRN
                  rintro e w9 ⟨rfl, hO9⟩
                  have HO9 := Lib.hid (HO8.out.trans hO9)
                  clear hO9
                  go_wp2
                  exact bodyPost_ret (results_tmp rfl _ _ _) rfl ⟨rfl, HO9.out.alloc _⟩
              · have t2z : ¬ ((L.length : Int) ≤ (ps.length : Int)) := by omega
                go_wp2
                exact bodyPost_ret (results_tmp rfl _ _ _) rfl ⟨rfl, HOW.out⟩
            · have t1z : ¬ (L.length : Int) < 200 := by omega
              go_wp2
              exact bodyPost_ret (results_tmp rfl _ _ _) rfl ⟨rfl, HOW.out⟩
    · go_wp2
      generalize w2.alloc (.cells #[.int .i64 L.length, .slice xa L.length xc, .slice ra 8 rc, .slice ea s.n ec, .slice qa 4 qc] 33) = w3 at *
      generalize w2.heap.size = G at *
      clear HB1 HRD HO2 HO1
      go_loopw [16] (fun z wr => ∃ i : Nat, i ≤ L.length ∧ z = .int .i64 i ∧ Hid (Only [] w3 wr)) (fun z _ => L.length - (intOf z).toNat)
      case atStart => exact ⟨0, Nat.zero_le _, rfl, Lib.hid (Only.refl _ _)⟩
      case round =>
        obtain ⟨w5, hwo⟩ : ∃ x : World, x = wr := ⟨_, rfl⟩
        subst hwo
        obtain ⟨i, hi, rfl, HO⟩ := hrel
        have HOW := Lib.hid (HO3.out.trans HO.out)
        obtain ⟨tr, rg, en, qs, hb, hrd⟩ := (HRB.out.only HO.out).it
        obtain ⟨hcb, _, hlb⟩ := hb.facts
        rw [HL.out] at hcb
        clear hb hrd
        by_cases hil : i < L.length
        · have hilz : (i : Int) < (L.length : Int) := by omega
          by_cases hip : i < ps.length
          · have hipz : (i : Int) < (ps.length : Int) := by omega
            obtain ⟨pa', pc', hpe, _, _, hpcell⟩ := HP.out
            obtain ⟨gp, op, hga, hgp, hpx⟩ := hpcell (by omega)
            injection hpe with hpe1 _ hpe3
            subst hpe1
            subst hpe3
            subst hga
            have hpi := hpx i hip
            have HPX := Lib.hid hpi
            clear hpcell hpx hpi
            have HRR := Lib.hid (ready_run room (HT.out.below (Below.of_only HOW.out (Nat.le_refl _))).here (row_take (HP.out.only HOW.out) (i := i) (by omega)) (fun g hg => Nat.lt_of_lt_of_le (HPO.out g (by simpa [Value.ownBlock] using hg)) HOW.out.size) (asked_of2 HK.out (by omega) (by omega) (by rw [List.length_take]; omega) (fun k hk => (asked_zero HK.out).2.2.2.2.2.2.1 k (List.mem_of_mem_take hk))))
            go_wp2_with fail
            refine HRR.out.mono ?_
            clear HRR
            rintro e w6 ⟨u, rfl, hS, _, hB⟩
            have HO6 := Lib.hid (HO.out.trans (Only.of_below hB []))
            have HOW6 := Lib.hid (HO3.out.trans HO6.out)
            have hpk := HPK.out i hil (by rw [List.length_map]; exact hip)
            rw [List.map_take, List.length_take, Nat.min_eq_left (by omega)] at hS
            obtain ⟨R, hR⟩ : ∃ R, R = ready (all (List.take i (List.map Int.toNat ps)) i (begin_ acts room)) := ⟨_, rfl⟩
            rw [← hR] at hS hpk
            clear hR hB hcb hlb
            have hRl : 0 < R.length := List.length_pos_iff.2 hpk.1
            obtain ⟨gu, ou, cu, hu, hgu, _, _, hcu, _⟩ := hS.form hRl
            subst hu
            have hx0 : 0 ≤ ps[i] := (asked_zero HK.out).2.2.2.2.2.2.1 _ (List.getElem_mem _)
            obtain ⟨x, hx⟩ := nat_of hx0
            have hmod : x % R.length < R.length := Nat.mod_lt _ hRl
            have hpk2 : L[i].1 = R[x % R.length] := by
              rw [hpk.2, List.getElem_map, hx, Int.toNat_natCast, List.getD_eq_getElem?_getD, List.getElem?_eq_getElem hmod]; rfl
            have hcell : w6.cell? ⟨gu, ou + x % R.length, none⟩ = some (iv ((L[i].1 : Nat) : Int)) := by
              rw [hcu _ (by omega), hpk2]
              unfold nats
              rw [List.getElem?_map, List.getElem?_eq_getElem hmod]; rfl
            have hpcell : w6.cell? ⟨gp, op + i, none⟩ = some (iv (x : Int)) := by
              rw [← hx]
              exact (HOW6.out.cell (p := ⟨gp, op + i, none⟩) hgp (by simp)).trans HPX.out
            obtain ⟨tr6, rg6, en6, qs6, hb6, hrd6⟩ := (HRB.out.only HO6.out).it
            have ht6 := hrd6.tr
            rw [HL.out] at ht6 hb6
            obtain ⟨a6, c6, ha6, _, hc60⟩ := ht6
            obtain ⟨gt, ot, hg6, hgt, hc6⟩ := hc60 (by omega)
            clear hc60
            subst hg6
            subst ha6
            have htc := (hc6 i hil).1
            obtain ⟨hcb6, _, hlb6⟩ := hb6.facts
            clear hb6 hrd6 hc6 hcu hpk hpk2 hx hx0 hS
            generalize L[i].1 = tk at hcell htc
            have htm : ((x : Int)).tmod (R.length : Int) = ((x % R.length : Nat) : Int) := rfl
            have hz : ((R.length : Int) == 0) = false := by rw [beq_eq_false_iff_ne]; omega
            generalize hxm : x % R.length = xm at htm hcell hmod
            clear hxm
            go_wp2
            go_quiet (fail)
            go_wp2
            go_roundw
            case measure => simp [intOf]; omega
            case rel => exact ⟨i + 1, by omega, by go_num, Lib.hid (HO6.out.drewN _)⟩
          · have hipz : ¬ ((i : Int) < (ps.length : Int)) := by omega
            have t2z : ¬ ((L.length : Int) ≤ (ps.length : Int)) := by omega
            by_cases t1 : L.length < 200
            · have t1z : (L.length : Int) < 200 := by omega
              go_wp2
              exact bodyPost_ret (results_tmp rfl _ _ _) rfl ⟨rfl, HOW.out⟩
            · have t1z : ¬ (L.length : Int) < 200 := by omega
              go_wp2
              exact bodyPost_ret (results_tmp rfl _ _ _) rfl ⟨rfl, HOW.out⟩
        · have hilz : ¬ ((i : Int) < (L.length : Int)) := by omega
          by_cases t1 : L.length < 200
          · have t1z : (L.length : Int) < 200 := by omega
            by_cases t2 : L.length ≤ ps.length
            · have t2z : (L.length : Int) ≤ (ps.length : Int) := by omega
              go_wp2_with (at_builtin; refine wpList_append_row (f := intv) rfl (.const (.slice none 0 0)) (.tmp 161) 23 rfl 3 j3 _ 8 Try.underlying23 si sz0 sz1 sz2 rfl rfl (Sl.nil _ _ _) rfl (HP.out.only HOW.out) (fun _ => rfl) (by unfold maxLen; omega) (by omega) ?_)
              intro v7 w7 hS7 hg7 hat7
              have HS7 := Lib.hid hS7
              have HO7 := Lib.hid (HOW.out.grown hg7 (fun k hk => by cases hk))
              have HB7 := Lib.hid (HRB.out.only (HO.out.grown hg7 (fun k hk => by cases hk)))
              have HF7 := Lib.hid (show ∀ g, v7.ownBlock = some g → w5.heap.size ≤ g from fun g hg => by
                rcases hat7 with e | e
                · rw [e] at hg; cases hg
                · rw [e] at hg; injection hg with hg; omega)
              have HG7 := Lib.hid hg7
              have HSZ7 := Lib.hid hg7.size
              obtain ⟨b7, c7, hu7, _, _⟩ := hS7.shape
              subst hu7
              clear hS7 hg7 hat7 hcb hlb
              go_wp2_with (at_builtin; refine wpList_append_row (f := intv) rfl (.tmp 162) (.tmp 163) 23 rfl 3 j3 _ 8 Try.underlying23 si sz0 sz1 sz2 rfl rfl HS7.out rfl (HM.out.only HO7.out) (fun _ => rfl) (by unfold maxLen; omega) (by omega) ?_)
              intro v8 w8 hS8 hg8 hat8
              have hO78 : Only [] w5 w8 := ((Only.refl [] w5).grown HG7.out (fun k hk => by cases hk)).grown hg8 (fun k hk => .inr (HF7.out k hk))
              have HO8 := Lib.hid (HOW.out.trans hO78)
              have HB8 := Lib.hid (HRB.out.only (HO.out.trans hO78))
              have HR8 := Lib.hid (row_sl (f := intv) (l := ps ++ ms) (by rw [List.map_append]; exact hS8) (by simp))
              have HF8 := Lib.hid (show ∀ g, v8.ownBlock = some g → g < w8.heap.size from hS8.lt)
              have HT8 := Lib.hid ((HT.out.below (Below.of_only HO8.out (Nat.le_refl _))).here)
              obtain ⟨b8, c8, hu8, _, _⟩ := hS8.shape
              subst hu8
              clear hS8 hg8 hat8 HS7 HF7 HO7 HB7 HG7 hO78
              by_cases hk8 : askedM acts room (ps ++ ms) 200 = 0
              · have HRN := Lib.hid (run_ok room 200 HT8.out HR8.out HF8.out hk8)
                clear hk8 HR8 HF8 HT8
                go_wp2_with fail
                refine HRN.out.mono ?_
                clear HRN
                rintro e w9 ⟨v9, rfl, hV9, hB9⟩
                have hV9 : RunV w8.heap.size w9 s v9 := by
                  have e := HMR.out t1 (by rw [List.length_map]; exact t2)
                  rw [← List.map_append] at e
                  rw [← e]
                  exact hV9
                have HO9 := Lib.hid (HO8.out.trans (Only.of_below hB9 []))
                have HB9 := Lib.hid (HB8.out.only (Only.of_below hB9 []))
                clear HB8 HO8 hB9
                obtain ⟨tr9, rg9, en9, qs9, hv9, hrd9⟩ := hV9.rd
                obtain ⟨⟨x9, xc9, hx9⟩, ⟨r9, rc9, hr9⟩, ⟨e9, ec9, he9⟩, q9, qc9, hq9⟩ := hrd9.shapes
                have HD9 := Lib.hid hrd9
                obtain ⟨trA, rgA, enA, qsA, hbA, hrdA⟩ := HB9.out.it
                obtain ⟨⟨xA, xcA, hxA⟩, ⟨rA, rcA, hrA⟩, ⟨eA, ecA, heA⟩, qA, qcA, hqA⟩ := hrdA.shapes
                obtain ⟨hcA, _, hlA⟩ := hbA.facts
                have HDA := Lib.hid hrdA
                rw [HL.out] at hx9 hxA hv9 hcA
                clear hV9 hrd9 hrdA hbA
                subst hx9 hr9 he9 hq9 hxA hrA heA hqA
                subst hv9
                have hOA : Only [] w9 (w9.alloc (.cells #[.int .i64 L.length, .slice x9 L.length xc9, .slice r9 8 rc9, .slice e9 s.n ec9, .slice q9 4 qc9] 33)) := (Only.refl _ _).alloc _
                have HEQ := Lib.hid (eq_ok (HD9.out.only hOA) (HDA.out.only hOA))
                rw [HL.out] at HEQ
                clear HD9 HDA hOA HB9
                go_wp2_with fail
                refine HEQ.out.mono ?_
                clear HEQ
                rintro e wA ⟨rfl, hOE⟩
                have HOE := Lib.hid ((HO9.out.alloc (.cells #[.int .i64 L.length, .slice x9 L.length xc9, .slice r9 8 rc9, .slice e9 s.n ec9, .slice q9 4 qc9] 33)).trans hOE)
                clear hOE
                go_wp2
                exact bodyPost_ret (results_tmp rfl _ _ _) rfl ⟨rfl, HOE.out⟩
              · have HRN := Lib.hid (run_bad room 200 HT8.out HR8.out hk8)
                have hz8 : (askedM acts room (ps ++ ms) 200 == 0) = false := by simpa using hk8
                generalize askedM acts room (ps ++ ms) 200 = m8 at *
                clear HR8 HF8 HT8
                go_wp2_with fail
                refine HRN.out.mono ?_
                clear HRN
                rintro e w9 ⟨rfl, hO9⟩
                have HO9 := Lib.hid (HO8.out.trans hO9)
                clear hO9
                go_wp2
                exact bodyPost_ret (results_tmp rfl _ _ _) rfl ⟨rfl, HO9.out.alloc _⟩
            · have t2z : ¬ ((L.length : Int) ≤ (ps.length : Int)) := by omega
              go_wp2
              exact bodyPost_ret (results_tmp rfl _ _ _) rfl ⟨rfl, HOW.out⟩
          · have t1z : ¬ (L.length : Int) < 200 := by omega
            go_wp2
            exact bodyPost_ret (results_tmp rfl _ _ _) rfl ⟨rfl, HOW.out⟩
  · have HR := Lib.hid (run_bad room 200 HT1.out (HP.out.only HO1.out) hk)
    have hz : (askedM acts room ps 200 == 0) = false := by simpa using hk
    generalize askedM acts room ps 200 = m at *
    go_wp2_with fail
    refine HR.out.mono ?_
    clear HR
    rintro e w2 ⟨rfl, hO2⟩
    have HO2 := Lib.hid (HO1.out.trans hO2)
    clear hO2
    go_wp2
    exact bodyPost_ret (results_tmp rfl _ _ _) rfl ⟨rfl, HO2.out.alloc _⟩
theorem split_row (W : World) (tv : Value) (acts : List (List A)) (hT : TasksV W.heap.size W tv acts) (room : Int) (pv : Value) (ps : List Int) (hp : Row (fun s => .int .i64 s) W pv ps) (_hw : ∀ i (h : i < ps.length), (Lit.int .i64 ps[i]).wf = true) (hpo : ∀ g, pv.ownBlock = some g → g < W.heap.size) (cut : Int)
    (mv : Value) (ms : List Int) (hm : Row (fun s => .int .i64 s) W mv ms) (_hw2 : ∀ i (h : i < ms.length), (Lit.int .i64 ms[i]).wf = true) (hmo : ∀ g, mv.ownBlock = some g → g < W.heap.size) :
    Calls Try.prog 4 #[tv, .int .i64 room, pv, .int .i64 cut, mv] W fun e W' => e = .returned (.bool true) ∧ Only [] W W' := split_ok room cut hT hp hpo hm hmo
end Go.Proofs.Ytompelilflckkaa
