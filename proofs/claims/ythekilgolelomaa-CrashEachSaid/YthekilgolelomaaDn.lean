/-
  The disk: the changes that pend come to last; SyncDir.
-/
import Derived.Test.YthekilgolelomaaDm
set_option linter.unusedSimpArgs false
set_option linter.unusedVariables false
namespace Go.Proofs.Ythekilgolelomaa
open Go.RowKit Go.Fl

/-- All that pends lasts. -/
def PD.settle (p : PD) : PD := { p with last := doAll p.last p.pend, pend := [] }
/-- The first k that pend have come to last. -/
def PD.part (p : PD) (k : Nat) : PD := { p with last := doAll p.last (p.pend.take k) }
theorem doAll_take (d : Dir) (l : List Chg) (k : Nat) (h : k < l.length) : doAll d (l.take (k + 1)) = (l[k]).do_ (doAll d (l.take k)) := by
  rw [List.take_succ_eq_append_getElem h, doAll_snoc]
theorem okAll_at : ∀ {d : Dir} {l : List Chg} (k : Nat) (h : k < l.length), okAll d l → (l[k]).ok (doAll d (l.take k))
  | _, c :: l, 0, _, hk => hk.1
  | _, c :: l, k + 1, h, hk => okAll_at (l := l) k (by simpa using h) hk.2
section
variable {w w' : World} {F G : Nat → Prop} {d : Nat} {p p' : PD} {fs : Nat → FD} {ids : Nat → Prop} {nb lb : Nat} {pv fv pv' fv' : Value} {bv lv : Nat → Value}
/-- The directory that lasts turns. -/
theorem DM.lasts (h : DM w F d p nb lb pv fv) {dir : Dir} (hm : DMap w' lb dir) (ho : Only [lb] w w') : DM w' F d { p with last := dir } nb lb pv fv :=
  ⟨h.blk.only ho (by simpa using h.dd.2.symm), h.now.only ho (by simpa using h.ne), hm, h.ne, h.pend.only ho (fun g hg => by simpa using (h.pd hg).2.2.1), h.flt.only ho (fun g hg => by simpa using (h.fdn hg).2.2), h.fd, h.fn, h.fl, h.fp_, h.ff⟩
/-- Nothing pends any more. -/
theorem DM.nopend (h : DM w F d p nb lb pv fv) : DM (w.setCell ⟨d, 5, none⟩ (.slice none 0 0)) F d { p with pend := [] } nb lb (.slice none 0 0) fv := by
  have ho : Only [d] w (w.setCell ⟨d, 5, none⟩ (.slice none 0 0)) := (Only.refl [d] w).setCell (.inl (by simp)) _
  refine ⟨?_, h.now.only ho (by simpa using h.dd.1), h.last.only ho (by simpa using h.dd.2), h.ne, Sl.nil _ _ _, h.flt.only ho (fun g hg => by simpa using (h.fdn hg).1), h.fd, h.fn, h.fl, by simp [Value.ownBlock], h.ff⟩
  have := h.blk.set_ 5 (.slice none 0 0)
  simpa [dcells] using this
set_option maxRecDepth 100000 in
set_option maxHeartbeats 1600000 in
theorem settle_ok (h : DM w F d p nb lb pv fv) (hk : okAll p.last p.pend) (hlen : p.pend.length ≤ 1048576) : Calls Try.prog 38 #[cp d, iv p.pend.length] w fun e w' =>
    e = .returned (.tuple #[]) ∧ DM w' F d p.settle nb lb (.slice none 0 0) fv ∧ Only [d, lb] w w' := by
  have H := Lib.hid h
  have HK := Lib.hid hk
  have hmf : ∀ (fn : Fn) (first cap : Array Value) (w : World), (Instr.makeFunc fn first cap).run Try.prog w = .ok (.func fn first cap) w := fun _ _ _ _ => rfl
  have HMF := Lib.hid hmf
  obtain ⟨N, hN⟩ : ∃ N, p.pend.length = N := ⟨_, rfl⟩
  have HN := Lib.hid hN
  rw [hN] at hlen ⊢
  have HLN := Lib.hid hlen
  obtain ⟨pa, pc, hpv, hpc, _⟩ := h.pend.shape
  subst hpv
  have x5 := h.blk.cell 5
  have xl := h.blk.lt
  simp [dcells] at x5
  rw [hN] at x5 hpc
  clear h hk hlen hN hmf
  go_enter Try.func38, Try.ntmps38
  go_wp2
  clear x5 xl
  go_loopw [13] (fun z wr => ∃ k : Nat, z = .int .i64 k ∧ Hid (k ≤ N) ∧ Hid (DM wr F d (p.part k) nb lb (.slice pa p.pend.length pc) fv) ∧ Hid (Only [d, lb] w wr)) (fun z _ => N - (intOf z).toNat)
  case atStart => exact ⟨0, rfl, Lib.hid (Nat.zero_le _), H, Lib.hid (Only.refl _ _)⟩
  case round =>
    obtain ⟨k, rfl, HKN, HD, HO⟩ := hrel
    by_cases hkl : k < N
    case neg =>
      have hkz : ¬ (k : Int) < (N : Int) := by omega
      have HE := Lib.hid (show k = N from Nat.le_antisymm HKN.out (Nat.le_of_not_lt hkl))
      have xl := HD.out.blk.lt
      have xf := HD.out.blk.frozen
      have x5 := HD.out.blk.cell 5
      have HD2 := Lib.hid HD.out.nopend
      simp [dcells] at x5
      clear hkl
      go_wp2
      refine bodyPost_end (results_none rfl _ _ _) rfl ⟨rfl, ?_, HO.out.setCell (.inl (by simp)) _⟩
      have e : p.settle = { p.part k with pend := [] } := by
        unfold PD.settle PD.part
        rw [HE.out, ← HN.out, List.take_length]
      rw [e]
      exact HD2.out
    have hkz : (k : Int) < (N : Int) := by omega
    have hka : k < p.pend.length := by rw [HN.out]; exact hkl
    have hok := okAll_at k hka HK.out
    have hSL : Sl wr 109 1 (.slice pa p.pend.length pc) p.pend.length (p.pend.map chgV) := HD.out.pend
    obtain ⟨g, o, c', hv, hfm⟩ := hSL.form (by omega)
    injection hv with hva hvl hvc
    subst hva
    subst hvc
    clear hvl hfm
    have y0 := hSL.cells_ k (chgV p.pend[k]) (by simp [hka])
    rw [Addr.add_lit] at y0
    obtain ⟨c, hc⟩ : ∃ c, p.pend[k] = c := ⟨_, rfl⟩
    have htk := doAll_take p.last p.pend k hka
    rw [hc] at y0 hok htk
    have HTK := Lib.hid (show p.part (k + 1) = { p.part k with last := c.do_ (p.part k).last } from by
      unfold PD.part
      rw [htk])
    rw [chg_iface] at y0
    have HDD := Lib.hid (HD.out.only0 ((Only.refl [] wr).drew))
    have HDO := Lib.hid (do_any HDD.out.last c hok)
    have x4 := HD.out.blk.cell 4
    have xl := HD.out.blk.lt
    simp [dcells] at x4
    have e8 := wrap_sm (by have := HLN.out; omega) hkl
    have HKL := Lib.hid hkl
    have HKA := Lib.hid hka
    have hm := m_do c
    have hcc := c_do c
    have hna := na_do c
    have hmf := HMF.out
    clear hok hSL hc hkl hka htk
    go_wp2_with fail
    refine Lex.wp_region_text (by kernel_rfl) (by kernel_rfl) ?_
    go_wp2_with fail
    refine HDO.out.mono ?_
    rintro e w2 ⟨rfl, hm2, ho2⟩
    have HD2 := Lib.hid (HDD.out.lasts hm2 ho2)
    have HO2 := Lib.hid (HO.out.drew.trans (ho2.mono (by simp)))
    rw [← HTK.out] at HD2
    clear hm2 ho2 hm hcc hna hmf x4 xl y0 HDO HTK HD HDD
    go_wp2_with fail
    refine Lex.sq_done (by rfl) ?_
    go_wp2
    go_roundw
    case measure => (try rw [e8]); exact meas HKL.out
    case rel => exact ⟨k + 1, by first | rfl | rw [e8], Lib.hid HKL.out, HD2, HO2⟩
/-- The names come to last. -/
def PD.sdir (p : PD) : Int × PD := if p.up = false then (22, p) else if (p.op .ds).flt.2.1 = 0 ∨ (p.op .ds).flt.2.1 = 2 then (0, (p.op .ds).settle) else (befR (p.op .ds).flt, (p.op .ds).bef (p.op .ds).flt)
theorem PD.Ok.settle (h : p.Ok) : p.settle.Ok := ⟨h.snow, doAll_srt h.slast _, by show doAll (doAll p.last p.pend) [] = p.now; exact h.go, trivial, ⟨h.len.1, by show (doAll p.last p.pend).length ≤ 256; rw [h.go]; exact h.len.1⟩, h.flt, h.most, fun n => by
    show (doAll (doAll p.last p.pend) (List.take n [])).length ≤ 256 ∧ ∀ x ∈ doAll (doAll p.last p.pend) (List.take n []), x.1.length ≤ 64
    rw [List.take_nil, h.go]
    exact ⟨h.len.1, h.names⟩⟩
theorem Live.settle (h : Live p ids) (hk : p.Ok) : Live p.settle ids := ⟨h.now, fun x hx => h.now x (by have : x ∈ doAll p.last p.pend := hx; rwa [hk.go] at this), fun c hc => nomatch hc⟩
set_option maxRecDepth 100000 in
set_option maxHeartbeats 3200000 in
theorem syncdir_ok (h0 : DK w F d p fs ids) (hc : p.calm) (hpl : p.pend.length ≤ 1048576) : Calls Try.prog 14 #[cp d] w fun e w' => e = .returned (iv p.sdir.1) ∧ After w F d p.sdir.2 fs ids w' := by
  have HS := Lib.hid (After.same h0)
  have HON : Hid (Calls Try.prog 37 #[cp d] w fun e w' => e = .returned (.bool p.up) ∧ w' = w) := by
    obtain ⟨⟨nb, lb, pv, fv, bv, lv, h⟩, _⟩ := h0
    exact Lib.hid (on_ok h.dm)
  have HOP := Lib.hid (opd_ds h0)
  have HC := Lib.hid (hc.op .ds)
  have HPL := Lib.hid hpl
  have xl := h0.lt
  unfold PD.sdir
  cases hu : p.up with
  | false =>
    rw [hu] at HON
    simp only [if_true]
    clear h0 hc hpl HOP hu
    go_enter Try.func14, Try.ntmps14
    go_wp2_with fail
    refine HON.out.mono ?_
    rintro e w1 ⟨rfl, rfl⟩
    clear HON
    go_wp2
    exact bodyPost_ret (results_tmp rfl _ _ _) rfl ⟨rfl, HS.out⟩
  | true =>
    rw [hu] at HON
    simp only [Bool.true_eq_false, if_false]
    clear h0 hc hpl hu HS
    generalize (p.op .ds).flt = x at HOP HC ⊢
    obtain ⟨xa, xk, xp⟩ := x
    unfold fltV at HOP
    dsimp only at HOP HC ⊢
    by_cases h0 : xk = 0
    · subst h0
      simp only [true_or, if_true]
      go_enter Try.func14, Try.ntmps14
      go_wp2_with fail
      refine HON.out.mono ?_
      rintro e w1 ⟨rfl, rfl⟩
      clear HON
      go_wp2_with fail
      refine HOP.out.mono ?_
      rintro e w2 ⟨rfl, ha⟩
      have HA := Lib.hid ha
      clear HOP ha xl
      go_wp2_with (refine wpList_store_blk (g := w2.heap.size) (k := 0) rfl 83 (.tmp 3) (.tmp 12) rfl [iv xa, iv 0, iv xp] rfl rfl (Blk.new w2 83 #[iv 0, iv 0, iv 0]) (by kernel_rfl) (by simp) (by simp [Value.oneCell']) ?_)
      intro w3 hB hO
      have HB3 := Lib.hid (show Blk w3 w2.heap.size 83 #[iv xa, iv 0, iv xp] by simpa using hB)
      have HO3 := Lib.hid (only_new hO)
      have HD3 := Lib.hid (HA.out.1.only0 HO3.out)
      clear hB hO
      have x0 := HB3.out.cell 0
      have x1 := HB3.out.cell 1
      have x2 := HB3.out.cell 2
      have xlb := HB3.out.lt
      simp at x0 x1 x2
      obtain ⟨⟨nb4, lb4, pv4, fv4, bv4, lv4, H4⟩, hF4⟩ := HD3.out
      have HH4 := Lib.hid H4
      have HF4 := Lib.hid hF4
      have HST := Lib.hid (settle_ok H4.dm H4.ok.ok HPL.out)
      have x5 := H4.dm.blk.cell 5
      have xl := H4.dm.blk.lt
      simp [dcells] at x5
      obtain ⟨pa, pc, hpv, _, _⟩ := H4.dm.pend.shape
      rw [hpv] at x5
      clear H4 hF4 hpv
      go_wp2_with fail
      refine HST.out.mono ?_
      rintro e w4 ⟨rfl, hd4, ho4⟩
      have HE := Lib.hid (HA.out.trans (After.quiet_then HO3.out (After.kept HH4.out HF4.out (DM.mono hd4 fun k hk => (.inl hk : grow (grow F w1 w2) w3 w4 k)) (ho4.mono fun k hk => by simp at hk; rcases hk with rfl | rfl <;> simp [own]) (HH4.out.live.settle HH4.out.ok) HH4.out.ok.settle)))
      clear hd4 ho4 HST x0 x1 x2 xlb HD3 HB3 x5 xl HH4 HF4
      go_wp2
      exact bodyPost_ret (results_tmp rfl _ _ _) rfl ⟨rfl, HE.out⟩
    by_cases h2 : xk = 2
    · subst h2
      simp only [or_true, if_true]
      go_enter Try.func14, Try.ntmps14
      go_wp2_with fail
      refine HON.out.mono ?_
      rintro e w1 ⟨rfl, rfl⟩
      clear HON
      go_wp2_with fail
      refine HOP.out.mono ?_
      rintro e w2 ⟨rfl, ha⟩
      have HA := Lib.hid ha
      clear HOP ha xl
      go_wp2_with (refine wpList_store_blk (g := w2.heap.size) (k := 0) rfl 83 (.tmp 3) (.tmp 12) rfl [iv xa, iv 2, iv xp] rfl rfl (Blk.new w2 83 #[iv 0, iv 0, iv 0]) (by kernel_rfl) (by simp) (by simp [Value.oneCell']) ?_)
      intro w3 hB hO
      have HB3 := Lib.hid (show Blk w3 w2.heap.size 83 #[iv xa, iv 2, iv xp] by simpa using hB)
      have HO3 := Lib.hid (only_new hO)
      have HD3 := Lib.hid (HA.out.1.only0 HO3.out)
      clear hB hO
      have x0 := HB3.out.cell 0
      have x1 := HB3.out.cell 1
      have x2 := HB3.out.cell 2
      have xlb := HB3.out.lt
      simp at x0 x1 x2
      obtain ⟨⟨nb4, lb4, pv4, fv4, bv4, lv4, H4⟩, hF4⟩ := HD3.out
      have HH4 := Lib.hid H4
      have HF4 := Lib.hid hF4
      have HST := Lib.hid (settle_ok H4.dm H4.ok.ok HPL.out)
      have x5 := H4.dm.blk.cell 5
      have xl := H4.dm.blk.lt
      simp [dcells] at x5
      obtain ⟨pa, pc, hpv, _, _⟩ := H4.dm.pend.shape
      rw [hpv] at x5
      clear H4 hF4 hpv
      go_wp2_with fail
      refine HST.out.mono ?_
      rintro e w4 ⟨rfl, hd4, ho4⟩
      have HE := Lib.hid (HA.out.trans (After.quiet_then HO3.out (After.kept HH4.out HF4.out (DM.mono hd4 fun k hk => (.inl hk : grow (grow F w1 w2) w3 w4 k)) (ho4.mono fun k hk => by simp at hk; rcases hk with rfl | rfl <;> simp [own]) (HH4.out.live.settle HH4.out.ok) HH4.out.ok.settle)))
      clear hd4 ho4 HST x0 x1 x2 xlb HD3 HB3 x5 xl HH4 HF4
      go_wp2
      exact bodyPost_ret (results_tmp rfl _ _ _) rfl ⟨rfl, HE.out⟩
    simp only [h0, h2, or_self, if_false]
    have k0 : (xk != 0) = true := by simpa using h0
    have k2 : (xk != 2) = true := by simpa using h2
    clear h0 h2
    go_enter Try.func14, Try.ntmps14
    go_wp2_with fail
    refine HON.out.mono ?_
    rintro e w1 ⟨rfl, rfl⟩
    clear HON
    go_wp2_with fail
    refine HOP.out.mono ?_
    rintro e w2 ⟨rfl, ha⟩
    have HA := Lib.hid ha
    clear HOP ha xl
    go_wp2_with (refine wpList_store_blk (g := w2.heap.size) (k := 0) rfl 83 (.tmp 3) (.tmp 12) rfl [iv xa, iv xk, iv xp] rfl rfl (Blk.new w2 83 #[iv 0, iv 0, iv 0]) (by kernel_rfl) (by simp) (by simp [Value.oneCell']) ?_)
    intro w3 hB hO
    have HB3 := Lib.hid (show Blk w3 w2.heap.size 83 #[iv xa, iv xk, iv xp] by simpa using hB)
    have HO3 := Lib.hid (only_new hO)
    have HD3 := Lib.hid (HA.out.1.only0 HO3.out)
    clear hB hO
    have x0 := HB3.out.cell 0
    have x1 := HB3.out.cell 1
    have x2 := HB3.out.cell 2
    have xlb := HB3.out.lt
    simp at x0 x1 x2
    have HBF := Lib.hid (befall_dk HD3.out (xa, xk, xp) HC.out)
    unfold fltV at HBF
    dsimp only at HBF
    go_wp2_with fail
    refine HBF.out.mono ?_
    rintro e w4 ⟨rfl, ha4⟩
    have HE := Lib.hid (HA.out.trans (After.quiet_then HO3.out ha4))
    clear ha4 HBF x0 x1 x2 xlb HD3 HB3
    go_wp2
    exact bodyPost_ret (results_tmp rfl _ _ _) rfl ⟨rfl, HE.out⟩
end
end Go.Proofs.Ythekilgolelomaa
