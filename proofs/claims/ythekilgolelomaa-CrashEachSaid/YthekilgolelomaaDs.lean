/-
  The disk: the directory behind the first changes that pend.
-/
import Derived.Test.YthekilgolelomaaDr
import Derived.Test.YthekilgolelomaaDq
set_option linter.unusedSimpArgs false
set_option linter.unusedVariables false
namespace Go.Proofs.Ythekilgolelomaa
open Go.RowKit Go.Fl

theorem srt_perm {a b : Dir} (ha : Dir.Srt a) (hb : Dir.Srt b) (h : a.Perm b) : a = b :=
  List.Perm.eq_of_pairwise (le := fun p q : Nm × Nat => nl p.1 q.1 = true) (fun x y _ _ h1 h2 => by rw [nl_asym h1] at h2; cases h2) ha hb h
theorem put_all {D L : Dir} {l l' : List (Nm × Nat)} {s : Nm} {f : Nat} (hL : Dir.Srt L) (hP : (D ++ l).Perm L) (hl : l.Perm ((s, f) :: l')) : ((D.put s f) ++ l').Perm L := by
  have hn : ((D ++ l).map (·.1)).Nodup := (hP.map (·.1)).nodup_iff.2 hL.nod
  rw [List.map_append, List.nodup_append] at hn
  have hs : s ∈ l.map (·.1) := List.mem_map.2 ⟨(s, f), hl.mem_iff.2 (by simp), rfl⟩
  have hd : D.del s = D := List.filter_eq_self.2 fun p hp => by
    have h1 : p.1 ≠ s := hn.2.2 p.1 (List.mem_map.2 ⟨p, hp, rfl⟩) s hs
    simpa using h1
  have h2 := Dir.put_perm D s f
  rw [hd] at h2
  refine (h2.append_right l').trans ?_
  refine List.Perm.trans ?_ hP
  exact (List.perm_middle.symm.trans (hl.symm.append_left D))
theorem min_hit {k n : Nat} (h : k < n) : min (k + 1) n = k + 1 ∧ min k n = k := ⟨Nat.min_eq_left h, Nat.min_eq_left (Nat.le_of_lt h)⟩
theorem min_miss {k n : Nat} (h : ¬ k < n) : min (k + 1) n = min k n := by omega
section
variable {w w' : World} {F G : Nat → Prop} {d : Nat} {p p' : PD} {fs : Nat → FD} {ids : Nat → Prop} {nb lb : Nat} {pv fv pv' fv' : Value} {bv lv : Nat → Value}
/-- The directory behind the first n changes that pend. -/
def PD.after (p : PD) (n : Int) : Dir := doAll p.last (p.pend.take n.toNat)
set_option maxRecDepth 100000 in
set_option maxHeartbeats 3200000 in
theorem after_ok (h : DM w F d p nb lb pv fv) (hk : okAll p.last p.pend) (hlen : p.pend.length ≤ 1048576) (n : Int) : Calls Try.prog 43 #[cp d, iv n] w fun e w' =>
    ∃ b, e = .returned (.map (some b)) ∧ w.heap.size ≤ b ∧ DMap w' b (p.after n) ∧ Only [] w w' := by
  have H := Lib.hid h
  have HK := Lib.hid hk
  have hmf : ∀ (fn : Fn) (first cap : Array Value) (w : World), (Instr.makeFunc fn first cap).run Try.prog w = .ok (.func fn first cap) w := fun _ _ _ _ => rfl
  have HMF := Lib.hid hmf
  have hmk : ∀ w, (Instr.makeMap 56 none).run Try.prog w = .ok (.map (some w.heap.size)) (w.alloc (.map #[] 0)) := fun _ => rfl
  obtain ⟨N, hN⟩ : ∃ N, p.pend.length = N := ⟨_, rfl⟩
  have HN := Lib.hid hN
  rw [hN] at hlen
  have HLN := Lib.hid hlen
  obtain ⟨pa, pc, hpv, hpc, _⟩ := h.pend.shape
  subst hpv
  have HOA := Lib.hid ((Only.refl [] w).alloc (.map #[] 0))
  have hb := h.blk.only HOA.out (by simp)
  have x4 := hb.cell 4
  have x5 := hb.cell 5
  have xl := hb.lt
  simp [dcells] at x4 x5
  rw [hN] at x5 hpc
  have HLA := Lib.hid (h.last.only HOA.out (by simp))
  have HDA := Lib.hid (DMap.new w)
  clear h hk hlen hN hmf hb hpc x5
  go_enter Try.func43, Try.ntmps43
  go_wp2_with (refine wpList_drange rfl (.tmp 14) 56 rfl 9 78 Try.underlying56 rfl HLA.out ?_)
  intro w1 hr1 ho1 hz1
  have HR1 := Lib.hid hr1
  have HO1 := Lib.hid (HOA.out.trans ho1)
  have HD1 := Lib.hid (HDA.out.only ho1 (by simp))
  obtain ⟨ob, hob⟩ : ∃ ob, w.heap.size = ob := ⟨_, rfl⟩
  have HOB := Lib.hid hob
  rw [hob] at HR1 HD1 ⊢
  obtain ⟨it, hit⟩ : ∃ it, ob + 1 = it := ⟨_, rfl⟩
  have HIT := Lib.hid hit
  rw [hit] at HR1 ⊢
  clear hr1 ho1 hz1 x4 xl hob hit HDA HLA hmk
  go_wp2
  go_loopw [] (fun wr => ∃ l D, Hid (RIter wr it lb p.last l) ∧ Hid (DMap wr ob D) ∧ Hid ((D ++ l).Perm p.last) ∧ Hid (Only [] w wr)) (fun wr => itLeft wr it)
  case atStart => exact ⟨p.last, [], HR1, HD1, Lib.hid (List.Perm.refl _), HO1⟩
  case round =>
    obtain ⟨l, D, HR, HD, HP, HO⟩ := hrel
    go_wp2_with (refine wpList_dnext rfl (.tmp 15) rfl rfl HR.out ?_ ?_)
    · intro hl
      subst hl
      have HDL := Lib.hid (show DMap wr ob p.last from by
        have h1 := HP.out
        rw [List.append_nil] at h1
        rw [← srt_perm HD.out.2 HR.out.dmap.2 h1]
        exact HD.out)
      have HHM := Lib.hid (H.out.only0 HO.out)
      have x5 := HHM.out.blk.cell 5
      have xl := HHM.out.blk.lt
      simp [dcells] at x5
      rw [HN.out] at x5
      clear HP HD HHM
      have hOBL : w.heap.size ≤ ob := Nat.le_of_eq HOB.out
      have HOBL := Lib.hid hOBL
      clear hOBL
      obtain ⟨w5, hw5⟩ : ∃ w5 : World, w5 = wr := ⟨_, rfl⟩
      subst hw5
      go_wp2
      clear x5 xl
      go_loopw [29] (fun z wr => ∃ k : Nat, z = .int .i64 k ∧ Hid (k ≤ N) ∧ Hid (DMap wr ob (doAll p.last (p.pend.take (min k n.toNat)))) ∧ Hid (Only [] w wr)) (fun z _ => N - (intOf z).toNat)
      case atStart => exact ⟨0, rfl, Lib.hid (Nat.zero_le _), by rw [Nat.zero_min, List.take_zero]; exact HDL, HO⟩
      case round =>
        obtain ⟨k, rfl, HKN, HD, HO2⟩ := hrel
        by_cases hkl : k < N
        case neg =>
          have hkz : ¬ (k : Int) < (N : Int) := nlt_z hkl
          have HE := Lib.hid (show doAll p.last (p.pend.take (min k n.toNat)) = p.after n from by
            unfold PD.after
            have h1 := HKN.out
            have h2 : k = N := Nat.le_antisymm h1 (Nat.le_of_not_lt hkl)
            rw [h2, ← HN.out]
            by_cases h3 : p.pend.length ≤ n.toNat
            · rw [Nat.min_eq_left h3, List.take_of_length_le (Nat.le_refl _), List.take_of_length_le h3]
            · rw [Nat.min_eq_right (by omega)])
          rw [HE.out] at HD
          clear hkl HE
          go_wp2
          exact bodyPost_ret (results_tmp rfl _ _ _) rfl ⟨ob, rfl, HOBL.out, HD.out, HO2.out⟩
        have hkz : (k : Int) < (N : Int) := lt_z hkl
        have hka : k < p.pend.length := by rw [HN.out]; exact hkl
        have HS : Hid (Sl wr 109 1 (.slice pa p.pend.length pc) p.pend.length (p.pend.map chgV)) := Lib.hid (H.out.only0 HO2.out).pend
        obtain ⟨g, o, c', hv, hfm⟩ := HS.out.form (by omega)
        injection hv with hva hvl hvc
        subst hva
        subst hvc
        clear hvl hfm
        have y0 := HS.out.cells_ k (chgV p.pend[k]) (by simp [hka])
        rw [Addr.add_lit] at y0
        have hok := okAll_at k hka HK.out
        have htk := doAll_take p.last p.pend k hka
        obtain ⟨c, hc⟩ : ∃ c, p.pend[k] = c := ⟨_, rfl⟩
        rw [hc] at y0 hok htk
        rw [chg_iface] at y0
        have e8 := wrap_sm (by have := HLN.out; omega) hkl
        have HMS := Lib.hid (meas hkl)
        have HKL := Lib.hid hkl
        by_cases hkn : (k : Int) < n
        case neg =>
          have HE := Lib.hid (show min (k + 1) n.toNat = min k n.toNat from min_miss (by omega))
          clear hkl hka hok htk hc
          go_wp2
          go_roundw
          case measure => (try rw [e8]); exact HMS.out
          case rel => exact ⟨k + 1, by first | rfl | rw [e8], Lib.hid HKL.out, by rw [HE.out]; exact HD, HO2⟩
        have hkt : k < n.toNat := by omega
        rw [(min_hit hkt).2] at HD
        have HE := Lib.hid (min_hit hkt).1
        have HTK := Lib.hid htk
        have HDO := Lib.hid (do_any HD.out c hok)
        have hm := m_do c
        have hcc := c_do c
        have hna := na_do c
        have hmf := HMF.out
        clear hkl hka hok htk hc hkt
        go_wp2_with fail
        refine HDO.out.mono ?_
        rintro e w2 ⟨rfl, hm2, ho2⟩
        have HD2 := Lib.hid hm2
        rw [← HTK.out] at HD2
        have HOL := Lib.hid (show w.heap.size ≤ ob from HOBL.out)
        have HO3 := Lib.hid (only_fresh HO2.out ho2 HOL.out)
        clear hm2 ho2 hm hcc hna hmf y0 HDO HTK HD HO2
        go_wp2
        go_roundw
        case measure => (try rw [e8]); exact HMS.out
        case rel => exact ⟨k + 1, by first | rfl | rw [e8], Lib.hid HKL.out, by rw [HE.out]; exact HD2, HO3⟩
    · intro s f l' w2 hp hr2 ho2 hz he
      have HP2 := Lib.hid (put_all HR.out.dmap.2 HP.out hp)
      have HR2 := Lib.hid hr2
      have HO2 := Lib.hid (only_fresh HO.out ho2 (by have h1 := HOB.out; have h2 := HIT.out; omega))
      have HOI := Lib.hid (show ob ≠ it ∧ w.heap.size ≤ ob ∧ lb ≠ ob from ⟨by have := HIT.out; omega, Nat.le_of_eq HOB.out, fun e => by have := H.out.last.lt; have := HOB.out; omega⟩)
      have HD2 := Lib.hid (HD.out.only ho2 (by simpa using HOI.out.1))
      have HME := Lib.hid (show itLeft w2 it < itLeft wr it by rw [it_left hr2, it_left HR.out, hp.length_eq]; exact Nat.lt_succ_self _)
      clear hp hr2 ho2 hz HP HD HR
      go_wp2_with (at_mapUpdate; refine wpList_dput rfl (.tmp 21) (.tmp 22) (.tmp 23) 56 rfl 9 78 Try.underlying56 Try.underlying9 rfl HD2.out rfl rfl ?_)
      intro w3 hm3 ho3 hz3
      have HD3 := Lib.hid hm3
      have HR3 := Lib.hid (HR2.out.only ho3 (by simpa using HOI.out.2.2) (by simpa using HOI.out.1.symm))
      have HO3 := Lib.hid (only_fresh HO2.out ho3 HOI.out.2.1)
      have HME3 := Lib.hid (show itLeft w3 it < itLeft wr it by rw [it_left HR3.out, ← it_left HR2.out]; exact HME.out)
      clear hm3 ho3 hz3 he
      go_wp2
      go_roundw
      case measure => exact HME3.out
      case rel => exact ⟨l', _, HR3, HD3, HP2, HO3⟩
end
end Go.Proofs.Ythekilgolelomaa
