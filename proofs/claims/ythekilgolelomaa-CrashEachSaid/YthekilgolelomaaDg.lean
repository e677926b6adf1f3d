/-
  The disk: a change of names is done, and pends.
-/
import Derived.Test.YthekilgolelomaaDf
import Derived.Deep.RegionHeld3
set_option linter.unusedSimpArgs false
set_option linter.unusedVariables false
namespace Go.Proofs.Ythekilgolelomaa
open Go.RowKit Go.Fl

theorem m_do (c : Chg) (w : World) : (method 281 (chgT c) (chgA c) "flume/disk.do").run Try.prog w = .ok (chgF c, chgA c) w := by cases c <;> kernel_rfl
theorem c_do (c : Chg) (args : Array Value) (w : World) : (callFunc (chgF c) args).run Try.prog w = .ok (.enter (chgF c) args) w := by cases c <;> kernel_rfl
theorem na_do (c : Chg) (w : World) : (nilAhead 281 (chgT c) (chgA c) "flume/disk.do").run Try.prog w = .ok (some false) w := by cases c <;> kernel_rfl
theorem chg_iface (c : Chg) : chgV c = .iface (chgT c) (chgA c) := by cases c <;> rfl
/-- A change of names is done. -/
def PD.chg (p : PD) (c : Chg) : PD := { p with now := c.do_ p.now, pend := p.pend ++ [c] }
/-- Memory that is the disk's now, or new. -/
def grow (F : Nat → Prop) (w w' : World) : Nat → Prop := fun k => F k ∨ (w.heap.size ≤ k ∧ k < w'.heap.size)
/-- The disk's own blocks. -/
def own (d nb lb : Nat) (pv fv : Value) : List Nat := d :: nb :: lb :: (pv.ownBlock.toList ++ fv.ownBlock.toList)
theorem info103 : (Try.prog.info? 109).map (fun i => (i.zero, i.size, i.bytes)) = some (some .nilIface, 1, 16) := by kernel_rfl
theorem info_parts {e : TypeId} {z : Value} {m b : Nat} (h : (Try.prog.info? e).map (fun i => (i.zero, i.size, i.bytes)) = some (some z, m, b)) : ∃ i, Try.prog.info? e = some i ∧ i.zero = some z ∧ i.size = m ∧ i.bytes = b := by
  cases hi : Try.prog.info? e with
  | none => rw [hi] at h; cases h
  | some i =>
    rw [hi] at h
    injection h with h
    injection h with h1 h2
    injection h2 with h2 h3
    exact ⟨i, rfl, h1, h2, h3⟩
theorem Blk.grown {w w1 : World} {g t : Nat} {cs : Array Value} {row : Option Nat} (hb : Blk w g t cs) (hg : w.grownBy w1 row) (hn : row ≠ some g) : Blk w1 g t cs := (hg.block g hb.lt fun e => hn e.symm).trans hb
theorem sl_one {w : World} {g t : Nat} {a : Value} (h : Blk w g t #[a]) : Sl w t 1 (.slice (some ⟨g, 0, none⟩) 1 1) 1 [a] :=
  ⟨rfl, .inr ⟨g, 0, 1, _, rfl, h, Nat.le_refl _, by decide, Nat.le_refl _, rfl⟩⟩
theorem Sl.blk {w : World} {e size n g : Nat} {v : Value} {xs : List Value} (h : Sl w e size v n xs) (hg : v.ownBlock = some g) : ∃ cur, Blk w g e cur := by
  rcases h.2 with ⟨e, _⟩ | ⟨g', o, c, cur, e, hh, _⟩
  · rw [e] at hg; cases hg
  · rw [e] at hg; injection hg with hg; subst hg; exact ⟨cur, hh⟩
section
variable {w w' : World} {F : Nat → Prop} {d : Nat} {p : PD} {nb lb : Nat} {pv fv : Value}
theorem PD.Ok.chg (h : p.Ok) (c : Chg) (hc : c.ok p.now) (hn : (c.do_ p.now).length ≤ 256) (hm : ∀ x ∈ c.do_ p.now, x.1.length ≤ 64) : (p.chg c).Ok :=
  ⟨c.srt h.snow, h.slast, by show doAll p.last (p.pend ++ [c]) = _; rw [doAll_snoc, h.go]; rfl, okAll_snoc h.ok (by show c.ok (doAll p.last p.pend); rw [h.go]; exact hc), ⟨hn, h.len.2⟩, h.flt, h.most, fun n => by
    show (doAll p.last ((p.pend ++ [c]).take n)).length ≤ 256 ∧ ∀ x ∈ doAll p.last ((p.pend ++ [c]).take n), x.1.length ≤ 64
    by_cases hnl : n ≤ p.pend.length
    · rw [List.take_append_of_le_length hnl]
      exact h.pre n
    · rw [List.take_of_length_le (by simp; omega), doAll_snoc, h.go]
      exact ⟨hn, hm⟩⟩
theorem DM.pd (h : DM w F d p nb lb pv fv) {g : Nat} (hg : pv.ownBlock = some g) : g ≠ d ∧ g ≠ nb ∧ g ≠ lb ∧ fv.ownBlock ≠ some g := by
  obtain ⟨cur, hb⟩ := Go.Proofs.Ythekilgolelomaa.Sl.blk h.pend hg
  refine ⟨Blk.ne_ hb h.blk (by decide), (h.now.not_cells hb).symm, (h.last.not_cells hb).symm, fun e => ?_⟩
  obtain ⟨cur2, hb2⟩ := Go.Proofs.Ythekilgolelomaa.Sl.blk h.flt e
  exact Blk.ne_ hb hb2 (by decide) rfl
theorem DM.fdn (h : DM w F d p nb lb pv fv) {g : Nat} (hg : fv.ownBlock = some g) : g ≠ d ∧ g ≠ nb ∧ g ≠ lb := by
  obtain ⟨cur, hb⟩ := Go.Proofs.Ythekilgolelomaa.Sl.blk h.flt hg
  exact ⟨Blk.ne_ hb h.blk (by decide), (h.now.not_cells hb).symm, (h.last.not_cells hb).symm⟩
theorem DM.dd (h : DM w F d p nb lb pv fv) : nb ≠ d ∧ lb ≠ d := ⟨h.now.not_cells h.blk, h.last.not_cells h.blk⟩
/-- One more pends; then the slice is laid. -/
theorem chg_fact {w1 w2 w4 : World} {v4 : Value} {c : Chg} (h : DM w F d p nb lb pv fv) (ho : Only [nb] w w1) (hm : DMap w1 nb (c.do_ p.now)) (ho2 : Only [] w1 w2)
    (hS : Sl w4 109 1 v4 (p.pend.length + 1) (p.pend.map chgV ++ [chgV c])) (hg : w2.grownBy w4 pv.ownBlock) (hat : v4.ownBlock = pv.ownBlock ∨ v4.ownBlock = some w2.heap.size) :
    Blk w4 d 59 (dcells p nb lb pv fv) ∧ DM (w4.setCell ⟨d, 5, none⟩ v4) (grow F w (w4.setCell ⟨d, 5, none⟩ v4)) d (p.chg c) nb lb v4 fv ∧ Only (own d nb lb pv fv) w (w4.setCell ⟨d, 5, none⟩ v4) := by
  have hlt := h.lts
  have hs1 := ho.size
  have hs2 := ho2.size
  have hd := h.dd
  have h24 : Only pv.ownBlock.toList w1 w4 := (ho2.mono (by simp)).grown hg fun k hk => .inl (by simp [hk])
  have hpn : ∀ {k}, k ∈ pv.ownBlock.toList → k ≠ d ∧ k ≠ nb ∧ k ≠ lb ∧ fv.ownBlock ≠ some k := fun hk => h.pd (by simpa using hk)
  have hb4 : Blk w4 d 59 (dcells p nb lb pv fv) := (h.blk.only ho (by simpa using hd.1.symm)).only h24 fun hk => (hpn hk).1 rfl
  have hv4 : v4.ownBlock ≠ some d := fun e => by
    rcases hat with e2 | e2
    · exact (h.pd (e2 ▸ e)).1 rfl
    · rw [e2] at e
      injection e with e
      omega
  have hnow : DMap w4 nb (c.do_ p.now) := hm.only h24 fun hk => (hpn hk).2.1 rfl
  have hlast : DMap w4 lb p.last := (h.last.only ho (by simpa using h.ne.symm)).only h24 fun hk => (hpn hk).2.2.1 rfl
  have hflt : Sl w4 83 3 fv p.faults.length (fcs p.faults) := (h.flt.only ho fun g hg => by simpa using (h.fdn hg).2.1).only h24 fun g hg hk => (hpn hk).2.2.2 hg
  have ho4 : Only (own d nb lb pv fv) w w4 := (ho.mono fun k hk => by simp at hk; subst hk; simp [own]).trans (h24.mono fun k hk => by simp at hk; simp [own, hk])
  have ho5 : Only (own d nb lb pv fv) w (w4.setCell ⟨d, 5, none⟩ v4) := ho4.setCell (.inl (by simp [own])) _
  have hsz : w.heap.size ≤ (w4.setCell ⟨d, 5, none⟩ v4).heap.size := ho5.size
  have hS5 : Sl (w4.setCell ⟨d, 5, none⟩ v4) 109 1 v4 (p.pend.length + 1) (p.pend.map chgV ++ [chgV c]) := hS.far (by simpa using hv4) _
  have hG : ∀ k, F k → grow F w (w4.setCell ⟨d, 5, none⟩ v4) k := fun k hk => .inl hk
  have o5 : Only [d] w4 (w4.setCell ⟨d, 5, none⟩ v4) := (Only.refl [d] w4).setCell (.inl (by simp)) _
  refine ⟨hb4, ⟨?_, hnow.only o5 (by simpa using hd.1), hlast.only o5 (by simpa using hd.2), h.ne, ?_, hflt.only o5 (fun g hg => by simpa using (h.fdn hg).1), hG _ h.fd, hG _ h.fn, hG _ h.fl, fun g hg2 => ?_, fun g hg2 => hG _ (h.ff g hg2)⟩, ho5⟩
  · have := hb4.set_ 5 v4
    simpa [dcells, PD.chg] using this
  · have e1 : (p.chg c).pend.length = p.pend.length + 1 := by simp [PD.chg]
    have e2 : (p.chg c).pend.map chgV = p.pend.map chgV ++ [chgV c] := by simp [PD.chg]
    rw [e1, e2]
    exact hS5
  · have hl := hS5.lt g hg2
    rcases hat with e2 | e2
    · exact .inl (h.fp_ g (e2 ▸ hg2))
    · rw [e2] at hg2
      injection hg2 with hg2
      exact .inr ⟨by omega, hl⟩
set_option maxRecDepth 100000 in
set_option maxHeartbeats 1600000 in
theorem change_ok (h : DM w F d p nb lb pv fv) (x : Flt) (full : Bool) (c : Chg) (hx : x.2.1 = 0 ∨ (x.2.1 = 2 ∧ full = false)) (hc : c.ok p.now) (hlen : p.pend.length ≤ 1048576) :
    Calls Try.prog 31 #[cp d, fltV x, .bool full, chgV c] w fun e w' =>
    e = .returned (iv 0) ∧ ∃ pv', DM w' (grow F w w') d (p.chg c) nb lb pv' fv ∧ Only (own d nb lb pv fv) w w' := by
  obtain ⟨xa, xb, xc⟩ := x
  obtain ⟨j103, si, sz0, sz1, sz2⟩ := info_parts info103
  unfold fltV
  have HCV := Lib.hid (chg_iface c)
  rw [chg_iface]
  dsimp only at hx ⊢
  have H := Lib.hid h
  have HLN := Lib.hid hlen
  have HO := Lib.hid (show Only [] w (w.alloc (.cells #[iv xa, iv xb, iv xc] 83)) from (Only.refl _ _).alloc _)
  have HDO := Lib.hid (fun wx (ho : Only [] w wx) => do_any (h.only0 ho).now c hc)
  have hb1 := h.blk.alloc (.cells #[iv xa, iv xb, iv xc] 83)
  have hr := Blk.new w 83 #[iv xa, iv xb, iv xc]
  have xl := hb1.lt
  have c1 := hr.cell 1
  have x3 := hb1.cell 3
  simp [dcells] at c1 x3
  have hm := m_do c
  have hcc := c_do c
  have hna := na_do c
  have hmf : ∀ (fn : Fn) (first cap : Array Value) (w : World), (Instr.makeFunc fn first cap).run Try.prog w = .ok (.func fn first cap) w := fun _ _ _ _ => rfl
  clear h hb1 hr hc hlen
  rcases hx with hx | ⟨hx, rfl⟩
  · subst hx
    go_enter Try.func31, Try.ntmps31
    go_wp2
    refine Lex.wp_region_text (by kernel_rfl) (by kernel_rfl) ?_
    go_wp2_with fail
    refine (HDO.out _ (HO.out.drew)).mono ?_
    rintro e w1 ⟨rfl, hm1, ho1⟩
    have HM1 := Lib.hid hm1
    have HO1 := Lib.hid ((HO.out.drew.mono (by simp)).trans ho1)
    have HB1 := Lib.hid (H.out.blk.only HO1.out (by simpa using H.out.dd.1.symm))
    have HP1 := Lib.hid (H.out.pend.only HO1.out (fun g hg => by simpa using (H.out.pd hg).2.1))
    clear hm1 ho1 hna hm hcc hmf xl x3 c1 HDO
    obtain ⟨pa, pc, hpv, hpc, hpz⟩ := HP1.out.shape
    subst hpv
    clear hpc hpz
    have x5 := HB1.out.cell 5
    have xl := HB1.out.lt
    simp [dcells] at x5
    go_wp2_with fail
    refine Lex.sq_done (by rfl) ?_
    go_wp2_with (at_builtin; refine wpList_append_sls rfl (.tmp 38) (.tmp 40) 57 rfl 109 j103 _ 1 16 Try.underlying57 si sz0 sz1 sz2 rfl (by decide) rfl (HP1.out.alloc _) rfl (sl_one (Blk.new _ _ _)) (by simp [Value.oneCell']) (by have := HLN.out; unfold maxLen; omega) (by have := HLN.out; omega) ?_)
    intro v4 w4 hS4 hg4 hat4
    rw [← HCV.out] at hS4
    have HE := Lib.hid (chg_fact H.out HO1.out HM1.out ((Only.refl [] w1).alloc _) hS4 hg4 (hat4.imp (fun e => e) (fun e => by rw [e]; simp)))
    obtain ⟨va, vc, hv4, _, _⟩ := hS4.shape
    subst hv4
    clear hS4 hg4 hat4 x5 xl HP1 HB1 HM1
    have xl4 := HE.out.1.lt
    have xf4 := HE.out.1.frozen
    have x54 := HE.out.1.cell 5
    simp [dcells] at x54
    go_wp2
    exact bodyPost_ret (results_tmp rfl _ _ _) rfl ⟨rfl, _, HE.out.2.1, HE.out.2.2⟩
  · subst hx
    go_enter Try.func31, Try.ntmps31
    go_wp2
    refine Lex.wp_region_text (by kernel_rfl) (by kernel_rfl) ?_
    go_wp2_with fail
    refine (HDO.out _ (HO.out.drew)).mono ?_
    rintro e w1 ⟨rfl, hm1, ho1⟩
    have HM1 := Lib.hid hm1
    have HO1 := Lib.hid ((HO.out.drew.mono (by simp)).trans ho1)
    have HB1 := Lib.hid (H.out.blk.only HO1.out (by simpa using H.out.dd.1.symm))
    have HP1 := Lib.hid (H.out.pend.only HO1.out (fun g hg => by simpa using (H.out.pd hg).2.1))
    clear hm1 ho1 hna hm hcc hmf xl x3 c1 HDO
    obtain ⟨pa, pc, hpv, hpc, hpz⟩ := HP1.out.shape
    subst hpv
    clear hpc hpz
    have x5 := HB1.out.cell 5
    have xl := HB1.out.lt
    simp [dcells] at x5
    go_wp2_with fail
    refine Lex.sq_done (by rfl) ?_
    go_wp2_with (at_builtin; refine wpList_append_sls rfl (.tmp 38) (.tmp 40) 57 rfl 109 j103 _ 1 16 Try.underlying57 si sz0 sz1 sz2 rfl (by decide) rfl (HP1.out.alloc _) rfl (sl_one (Blk.new _ _ _)) (by simp [Value.oneCell']) (by have := HLN.out; unfold maxLen; omega) (by have := HLN.out; omega) ?_)
    intro v4 w4 hS4 hg4 hat4
    rw [← HCV.out] at hS4
    have HE := Lib.hid (chg_fact H.out HO1.out HM1.out ((Only.refl [] w1).alloc _) hS4 hg4 (hat4.imp (fun e => e) (fun e => by rw [e]; simp)))
    obtain ⟨va, vc, hv4, _, _⟩ := hS4.shape
    subst hv4
    clear hS4 hg4 hat4 x5 xl HP1 HB1 HM1
    have xl4 := HE.out.1.lt
    have xf4 := HE.out.1.frozen
    have x54 := HE.out.1.cell 5
    simp [dcells] at x54
    go_wp2
    exact bodyPost_ret (results_tmp rfl _ _ _) rfl ⟨rfl, _, HE.out.2.1, HE.out.2.2⟩
end
end Go.Proofs.Ythekilgolelomaa
