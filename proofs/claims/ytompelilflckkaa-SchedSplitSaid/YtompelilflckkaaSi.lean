/-
  The scheduler: those that wait for a condition wake.
-/
import Derived.Test.YtompelilflckkaaSh
namespace Go.Proofs.Ytompelilflckkaa
open Go.RowKit Go.Fl

theorem wakeAll_append (s : S) (l m : List Nat) : s.wakeAll (l ++ m) = (s.wakeAll l).wakeAll m := by
  induction l generalizing s with
  | nil => rfl
  | cons i l ih => exact ih _

set_option maxRecDepth 100000 in
set_option maxHeartbeats 3200000 in
theorem wake_ok {w : World} {base r : Nat} {f : Nat → Value} {b : Nat → Nat} {s : S} {c k L : Nat} (h : RS w base r f b s) (hw : WF s L) (hL : L ≤ 65536) (hc : c < 4) (hk : k ≤ (s.conds c).length) :
    Calls Try.prog 49 #[.pointer (some ⟨r, 0, none⟩), iv c, iv k] w fun e w' => e = .returned (.tuple #[]) ∧ (∃ f', RS w' base r f' b (s.wake c k)) ∧ Below base w w' := by
  obtain ⟨cc, hS⟩ := h.sCond hc
  obtain ⟨ca, cc2, hcv, hcc2, _⟩ := hS.shape
  have HCV := Lib.hid hcv
  rw [hcv] at cc
  have hcz : (c : Int) < 4 := by omega
  have hlr := h.lt
  have hkc : k ≤ cc2 := by omega
  have hkcz : (k : Int) ≤ (cc2 : Int) := by omega
  have hn := hw.n
  have hll := (hw.conds c).2
  have H := Lib.hid h
  clear hS hcv h
  go_enter Try.func49, Try.ntmps49
  go_wp2
  go_loopw [17] (fun z wr => ∃ j : Nat, j ≤ k ∧ z = .int .i64 j ∧ Hid (RS wr base r f b (s.wakeAll ((s.conds c).take j))) ∧ Hid (Below base w wr)) (fun z _ => k - (intOf z).toNat)
  case atStart => exact ⟨0, Nat.zero_le _, rfl, Lib.hid (by rw [List.take_zero]; exact H.out), Lib.hid (Below.refl _ _)⟩
  case round =>
    obtain ⟨j, hj, rfl, HR, HB⟩ := hrel
    have hcn : (s.wakeAll ((s.conds c).take j)).conds c = s.conds c := by rw [wakeAll_conds]
    obtain ⟨cr, hSr⟩ := HR.out.sCond hc
    rw [hcn] at hSr
    by_cases hjk : j < k
    · have hjz : (j : Int) < (k : Int) := by omega
      have hjl : j < (s.conds c).length := by omega
      obtain ⟨g, o, cp, hv, hg, _, _, hcc, _⟩ := hSr.form (by omega)
      rw [HCV.out] at hv
      injection hv with e1 _ e3
      subst e1
      subst e3
      obtain ⟨id, hid⟩ : ∃ id, (s.conds c)[j] = id := ⟨_, rfl⟩
      have cx := (hcc j (by omega)).trans (nats_at hjl)
      rw [hid] at cx
      have hidn : id < s.n := (hw.conds c).1 id (hid ▸ List.getElem_mem hjl)
      have hsn : (s.wakeAll ((s.conds c).take j)).n = s.n := wakeAll_n _ _
      have hidn' : id < (s.wakeAll ((s.conds c).take j)).n := by rw [hsn]; exact hidn
      obtain ⟨gt, ot, ct, htv, hgt, hct⟩ := HR.out.cTask hidn'
      have c0 := HR.out.sTasks.1
      rw [htv] at c0
      rw [hsn] at c0
      have hidz : (id : Int) < (s.n : Int) := by omega
      have hlr1 := HR.out.lt
      obtain ⟨v, hBk, _⟩ := HR.out.task id hidn'
      obtain ⟨hcell, hfr, hlt⟩ := hBk.facts
      have HE := Lib.hid (show s.wakeAll ((s.conds c).take (j + 1)) = (s.wakeAll ((s.conds c).take j)).setT id { (s.wakeAll ((s.conds c).take j)).ts id with wait := 2 } by
        rw [List.take_succ_eq_append_getElem hjl, hid, wakeAll_append]; rfl)
      obtain ⟨h3, b3⟩ := HR.out.setT2 hidn' (j := 3) (u := iv 2) (t := { (s.wakeAll ((s.conds c).take j)).ts id with wait := 2 }) rfl rfl (fun _ => rfl)
      have H3 := Lib.hid h3
      have HB3 := Lib.hid (HB.out.trans b3)
      clear hcc hSr hcn htv hBk h3 b3 hid
      go_wp2
      go_roundw
      case measure => simp [intOf]; omega
      case rel => exact ⟨j + 1, by omega, by go_num, Lib.hid (by rw [HE.out]; exact H3.out), HB3⟩
    · obtain rfl : j = k := by omega
      rw [HCV.out] at cr hSr
      have hlr1 := HR.out.lt
      have hfr := HR.out.rc.blk.frozen
      have HSr := Lib.hid hSr
      clear hSr hcn
      go_wp2
      have hnd : (nats (s.conds c)).drop (j * 1) = nats ((s.conds c).drop j) := by simp [nats]
      by_cases hcj : cc2 = j
      · have HC := HSr.out.cut (k := j) hk
        rw [if_pos hcj, hnd] at HC
        obtain ⟨h5, b5, _⟩ := HR.out.cond hc (l := (s.conds c).drop j) (by rw [List.length_drop]; exact HC) (grown_refl _ _) (fun g hg => .inl (by
          rw [HCV.out]
          cases ca with
          | none => simp [Value.ownBlock] at hg
          | some ad => simpa [Value.ownBlock] using hg))
        obtain ⟨h6, b6⟩ := h5.only0 (Only.refl [] _).drew
        have H6 := Lib.hid h6
        have B6 := Lib.hid ((HB.out.trans b5).trans b6)
        have hz : cc2 - j = 0 := by omega
        have hz2 : (s.conds c).length - j = 0 := by omega
        rw [hz, hz2] at H6 B6
        clear h5 b5 h6 b6 HC hnd hz hz2
        subst hcj
        refine Lex.wp_region_text (by kernel_rfl) (by kernel_rfl) ?_
        go_wp2
        refine Lex.sq_done (by rfl) ?_
        go_wp2
        go_end0
        exact ⟨rfl, ⟨_, H6.out⟩, B6.out⟩
      · have HC := HSr.out.cut (k := j) hk
        rw [if_neg hcj, hnd, Nat.mul_one] at HC
        obtain ⟨h5, b5, _⟩ := HR.out.cond hc (l := (s.conds c).drop j) (by rw [List.length_drop]; exact HC) (grown_refl _ _) (fun g hg => .inl (by
          rw [HCV.out]
          cases ca with
          | none => exact hg
          | some ad => by_cases hj0 : j = 0 <;> simpa [Value.ownBlock, Addr.add, hj0] using hg))
        obtain ⟨h6, b6⟩ := h5.only0 (Only.refl [] _).drew
        have H6 := Lib.hid h6
        have B6 := Lib.hid ((HB.out.trans b5).trans b6)
        clear h5 b5 h6 b6 HC hnd
        refine Lex.wp_region_text (by kernel_rfl) (by kernel_rfl) ?_
        go_wp2
        refine Lex.sq_done (by rfl) ?_
        go_wp2
        go_end0
        exact ⟨rfl, ⟨_, H6.out⟩, B6.out⟩
end Go.Proofs.Ytompelilflckkaa
