/-
  The disk: Copy.
-/
import Derived.Test.YthekilgolelomaaKe
import Derived.Deep.RegionLaw
import Derived.Deep.RegionHeld3
set_option linter.unusedSimpArgs false
set_option linter.unusedVariables false
namespace Go.Proofs.Ythekilgolelomaa
open Go.RowKit Go.Fl

/-- The files that a disk names. -/
def Lv (p : PD) (i : Nat) : Prop := (∃ x ∈ p.now, x.2 = i) ∨ (∃ x ∈ p.last, x.2 = i) ∨ ∃ c ∈ p.pend, i ∈ c.ids
theorem Lv.ids {p : PD} {ids : Nat → Prop} (h : Live p ids) {i : Nat} (hi : Lv p i) : ids i := by
  rcases hi with ⟨x, hx, rfl⟩ | ⟨x, hx, rfl⟩ | ⟨c, hc, hi⟩
  · exact h.now x hx
  · exact h.last x hx
  · exact h.pend c hc i hi
theorem chg_congr {σ τ : Nat → Nat} {c : Chg} (h : ∀ i ∈ c.ids, σ i = τ i) : c.ren σ = c.ren τ := by
  cases c with
  | cr s f => show Chg.cr s (σ f) = Chg.cr s (τ f); rw [h f (by simp [Chg.ids])]
  | rm s => rfl
  | rn a b => rfl
/-- A disk while it is copied: k changes are there. -/
structure CB (w wr : World) (mb kb nb' lb' : Nat) (p : PD) (fv : Value) (fs : Nat → FD) (k : Nat) (pv' : Value) (m : List (Nat × Nat)) : Prop where
  tt : TO w wr w.heap.size mb [] m fs (Lv p)
  now : DMap wr nb' (dren (sg m) p.now)
  last : DMap wr lb' (dren (sg m) p.last)
  pend : Sl wr 109 1 pv' k (((p.pend.take k).map (Chg.ren (sg m))).map chgV)
  blk : Blk wr kb 59 (dcells p nb' lb' pv' fv)
  gn : ∀ x ∈ p.now, (pGet m x.2).isSome = true
  gl : ∀ x ∈ p.last, (pGet m x.2).isSome = true
  gp : ∀ c ∈ p.pend.take k, ∀ i ∈ c.ids, (pGet m i).isSome = true
  fn : w.heap.size ≤ nb' ∧ w.heap.size ≤ lb' ∧ w.heap.size ≤ kb ∧ nb' ≠ lb' ∧ nb' ≠ mb ∧ lb' ≠ mb ∧ kb ≠ mb
  fp_ : ∀ g, pv'.ownBlock = some g → w.heap.size ≤ g
section
variable {w w' : World} {F G : Nat → Prop} {d : Nat} {p p' : PD} {fs : Nat → FD} {ids : Nat → Prop} {nb lb : Nat} {pv fv pv' fv' : Value} {bv lv : Nat → Value}
theorem ren_old {m m' : List (Nat × Nat)} {A : Dir} (h : ∀ z u, pGet m z = some u → pGet m' z = some u) (hA : ∀ x ∈ A, (pGet m x.2).isSome = true) : dren (sg m) A = dren (sg m') A ∧ ∀ x ∈ A, (pGet m' x.2).isSome = true :=
  ⟨dren_congr fun x hx => (sg_old h (hA x hx)).2.symm, fun x hx => (sg_old h (hA x hx)).1⟩
section
variable {wr w6 w7 : World} {mb kb nb' lb' k : Nat} {pvv fvv v' : Value} {m m' : List (Nat × Nat)} {S : Nat → Prop} {c : Chg}
theorem CB.go (h : CB w wr mb kb nb' lb' p fvv fs k pvv m) (ht : TO wr w6 w.heap.size mb m m' fs S) (hS : ∀ i, S i → Lv p i) : CB w w6 mb kb nb' lb' p fvv fs k pvv m' := by
  obtain ⟨e1, e2⟩ := ren_old ht.old h.gn
  obtain ⟨e3, e4⟩ := ren_old ht.old h.gl
  have hp := h.tt.tx.map_
  refine ⟨h.tt.trans ht hS, by rw [← e1]; exact h.now.only ht.only (by simpa using h.fn.2.2.2.2.1), by rw [← e3]; exact h.last.only ht.only (by simpa using h.fn.2.2.2.2.2.1), ?_, h.blk.only ht.only (by simpa using h.fn.2.2.2.2.2.2), e2, e4, fun c hc i hi => (sg_old ht.old (h.gp c hc i hi)).1, h.fn, h.fp_⟩
  have e5 : (p.pend.take k).map (Chg.ren (sg m)) = (p.pend.take k).map (Chg.ren (sg m')) := List.map_congr_left fun c hc => chg_congr fun i hi => (sg_old ht.old (h.gp c hc i hi)).2.symm
  rw [← e5]
  exact h.pend.only ht.only fun g hg hm => by
    obtain ⟨cur, hc⟩ := Go.Proofs.Ythekilgolelomaa.Sl.blk h.pend hg
    rw [List.mem_singleton.1 hm] at hc
    exact hp.not_cells hc rfl
theorem CB.quiet (h : CB w wr mb kb nb' lb' p fvv fs k pvv m) (ho : Only [] wr w6) : CB w w6 mb kb nb' lb' p fvv fs k pvv m :=
  ⟨h.tt.then0 ho, h.now.only ho (by simp), h.last.only ho (by simp), h.pend.only ho (by simp), h.blk.only ho (by simp), h.gn, h.gl, h.gp, h.fn, h.fp_⟩
theorem Lv.some (h : CB w wr mb kb nb' lb' p fvv fs k pvv m) (hk : p.pend.length ≤ k) {i : Nat} (hi : Lv p i) : ∃ u, pGet m i = some u ∧ sg m i = u := by
  have : (pGet m i).isSome = true := by
    rcases hi with ⟨x, hx, rfl⟩ | ⟨x, hx, rfl⟩ | ⟨c, hc, hi⟩
    · exact h.gn x hx
    · exact h.gl x hx
    · exact h.gp c (by rw [List.take_of_length_le hk]; exact hc) i hi
  obtain ⟨u, hu⟩ := Option.isSome_iff_exists.1 this
  exact ⟨u, hu, by unfold sg; rw [hu]; rfl⟩
theorem CB.done (h : CB w wr mb kb nb' lb' p fvv fs k pvv m) (hk : p.pend.length ≤ k) (hkk : k ≤ p.pend.length) (hok : p.Ok) (hs : Sl w7 83 3 v' p.faults.length (fcs p.faults)) (hg : wr.grownBy w7 none) (hat : v'.ownBlock = none ∨ v'.ownBlock = some wr.heap.size) :
    Blk w7 kb 59 (dcells p nb' lb' pvv fvv) ∧ ∃ gs js, DK (w7.setCell ⟨kb, 15, none⟩ v') (fun i => w.heap.size ≤ i ∧ i < (w7.setCell ⟨kb, 15, none⟩ v').heap.size) kb (p.ren (sg m)) gs js ∧ (∀ i, Lv p i → gs (sg m i) = fs i) ∧ ∀ i j, Lv p i → Lv p j → sg m i = sg m j → i = j := by
  have o7 : Only [] wr w7 := (Only.refl _ _).grown hg fun k hk => by cases hk
  have hb7 : Blk w7 kb 59 (dcells p nb' lb' pvv fvv) := h.blk.only o7 (by simp)
  have o8 : Only [kb] w7 (w7.setCell ⟨kb, 15, none⟩ v') := (Only.refl [kb] w7).setCell (.inl (by simp)) _
  have hsz := h.tt.only.size
  have hvf : ∀ g, v'.ownBlock = some g → wr.heap.size ≤ g := fun g hg => by
    rcases hat with e | e
    · rw [e] at hg; cases hg
    · rw [e] at hg
      injection hg with hg
      omega
  have hkk2 := h.blk.lt
  have hv : v'.ownBlock ≠ some kb := fun e => by have := hvf kb e; omega
  obtain ⟨gs, bw, lw, js, ht⟩ := (h.tt.tx.only0 o7).far o8 fun g hg => by
    rw [List.mem_singleton.1 hg]
    exact ⟨fun t cs hc => by rw [show t = 59 from Classical.byContradiction fun hne => Blk.ne_ hc hb7 hne rfl]; decide, h.fn.2.2.2.2.2.2⟩
  have hnow := (h.now.only o7 (by simp)).only o8 (by simpa using (h.now.only o7 (by simp)).not_cells hb7)
  have hlast := (h.last.only o7 (by simp)).only o8 (by simpa using (h.last.only o7 (by simp)).not_cells hb7)
  have hpn : ∀ g, pvv.ownBlock = some g → g ∉ [kb] := fun g hg hm => by
    obtain ⟨cur, hc⟩ := Go.Proofs.Ythekilgolelomaa.Sl.blk h.pend hg
    rw [List.mem_singleton.1 hm] at hc
    exact Blk.ne_ hc h.blk (by decide) rfl
  have hpend := (h.pend.only o7 (by simp)).only o8 hpn
  have hsm : ∀ {i}, Lv p i → js (sg m i) := fun hi => by
    obtain ⟨u, hu, e⟩ := Lv.some h hk hi
    rw [e]
    exact (ht.is_ _ u hu).1
  have e15 : k = p.pend.length := Nat.le_antisymm hkk hk
  refine ⟨hb7, gs, js, ⟨⟨nb', lb', pvv, v', bw, lw, ⟨?_, hnow, hlast, h.fn.2.2.2.1, ?_, hs.far hv _, ⟨h.fn.2.2.1, Nat.lt_of_lt_of_le hb7.lt o8.size⟩, ⟨h.fn.1, hnow.lt⟩, ⟨h.fn.2.1, hlast.lt⟩, fun g hg => ⟨h.fp_ g hg, hpend.lt g hg⟩, fun g hg => ⟨Nat.le_trans hsz (hvf g hg), (hs.far hv _).lt g hg⟩⟩, ht.mem, ⟨fun x hx => ?_, fun x hx => ?_, fun c hc i hi => ?_⟩, hok.ren _⟩, fun i hi => hi.2⟩, fun i hi => ?_, fun i j hi hj e => ?_⟩
  · have := hb7.set_ 15 v'
    simpa [dcells, PD.ren] using this
  · subst e15
    rw [List.take_of_length_le (Nat.le_refl _)] at hpend
    have e1 : (p.ren (sg m)).pend.length = p.pend.length := List.length_map _
    rw [e1]
    exact hpend
  · obtain ⟨y, hy, rfl⟩ := mem_dren hx
    exact hsm (.inl ⟨y, hy, rfl⟩)
  · obtain ⟨y, hy, rfl⟩ := mem_dren hx
    exact hsm (.inr (.inl ⟨y, hy, rfl⟩))
  · obtain ⟨c0, hc0, rfl⟩ := List.mem_map.1 hc
    cases c0 with
    | cr s f =>
      simp [Chg.ren, Chg.ids] at hi
      rw [hi]
      exact hsm (.inr (.inr ⟨_, hc0, by simp [Chg.ids]⟩))
    | rm s => simp [Chg.ren, Chg.ids] at hi
    | rn a b => simp [Chg.ren, Chg.ids] at hi
  · obtain ⟨u, hu, e⟩ := Lv.some h hk hi
    rw [e]
    exact (ht.is_ _ u hu).2
  · obtain ⟨u, hu, e1⟩ := Lv.some h hk hi
    obtain ⟨v, hv, e2⟩ := Lv.some h hk hj
    rw [e1, e2] at e
    subst e
    exact ht.inj i j u hu hv
theorem CB.push (h : CB w wr mb kb nb' lb' p fvv fs k pvv m) (hk : k < p.pend.length) (hc : p.pend[k] = c) (hi : ∀ i ∈ c.ids, (pGet m i).isSome = true)
    (hs : Sl w7 109 1 v' (k + 1) (((p.pend.take k).map (Chg.ren (sg m))).map chgV ++ [chgV (c.ren (sg m))])) (hg : wr.grownBy w7 pvv.ownBlock) (hat : v'.ownBlock = pvv.ownBlock ∨ v'.ownBlock = some wr.heap.size) :
    Blk w7 kb 59 (dcells p nb' lb' pvv fvv) ∧ CB w (w7.setCell ⟨kb, 5, none⟩ v') mb kb nb' lb' p fvv fs (k + 1) v' m := by
  have hb : ∀ g, pvv.ownBlock = some g → ∃ cur, Blk wr g 109 cur := fun g hg => Go.Proofs.Ythekilgolelomaa.Sl.blk h.pend hg
  have o7 : Only pvv.ownBlock.toList wr w7 := (Only.refl _ _).grown hg fun k hk => .inl (by simp [hk])
  have hn : ∀ g t cs, pvv.ownBlock = some g → Blk wr g t cs → t = 109 := fun g t cs hg hc => by
    obtain ⟨cur, hc2⟩ := hb g hg
    exact Classical.byContradiction fun hne => Blk.ne_ hc hc2 hne rfl
  have kp : ∀ {g t cs}, Blk wr g t cs → t ≠ 109 → Blk w7 g t cs := fun hc ht => hc.only o7 fun hm => ht (hn _ _ _ (by simpa using hm) hc)
  have hb7 : Blk w7 kb 59 (dcells p nb' lb' pvv fvv) := kp h.blk (by decide)
  have hv : v'.ownBlock ≠ some kb := fun e => by
    rcases hat with e2 | e2
    · obtain ⟨cur, hc⟩ := hb kb (e2 ▸ e)
      exact Blk.ne_ hc h.blk (by decide) rfl
    · rw [e2] at e
      injection e with e
      have := h.blk.lt
      omega
  have o8 : Only [kb] w7 (w7.setCell ⟨kb, 5, none⟩ v') := (Only.refl [kb] w7).setCell (.inl (by simp)) _
  have hsz := h.tt.only.size
  have nnb : nb' ∉ pvv.ownBlock.toList := fun hm => by
    obtain ⟨cur, hc⟩ := hb nb' (by simpa using hm)
    exact h.now.not_cells hc rfl
  have nlb : lb' ∉ pvv.ownBlock.toList := fun hm => by
    obtain ⟨cur, hc⟩ := hb lb' (by simpa using hm)
    exact h.last.not_cells hc rfl
  have nmb : mb ∉ pvv.ownBlock.toList := fun hm => by
    obtain ⟨cur, hc⟩ := hb mb (by simpa using hm)
    exact h.tt.tx.map_.not_cells hc rfl
  have t7 : TX w7 w.heap.size mb m fs := h.tt.tx.far o7 fun g hg => ⟨fun t cs hc => by
    have := hn g t cs (by simpa using hg) hc
    subst this
    decide, fun e => nmb (e ▸ hg)⟩
  have t8 : TX (w7.setCell ⟨kb, 5, none⟩ v') w.heap.size mb m fs := t7.far o8 fun g hg => by
    rw [List.mem_singleton.1 hg]
    exact ⟨fun t cs hc => by rw [show t = 59 from Classical.byContradiction fun hne => Blk.ne_ hc hb7 hne rfl]; decide, h.fn.2.2.2.2.2.2⟩
  have hvf : ∀ g, v'.ownBlock = some g → w.heap.size ≤ g := fun g hg => by
    rcases hat with e | e
    · exact h.fp_ g (e ▸ hg)
    · rw [e] at hg
      injection hg with hg
      omega
  have e : (((p.pend.take (k + 1)).map (Chg.ren (sg m))).map chgV) = ((p.pend.take k).map (Chg.ren (sg m))).map chgV ++ [chgV (c.ren (sg m))] := by
    rw [List.take_succ_eq_append_getElem hk, hc]
    simp
  refine ⟨hb7, ⟨t8, h.tt.old, h.tt.new, ?_⟩, (h.now.only o7 nnb).only o8 (by simpa using (h.now.only o7 nnb).not_cells hb7), (h.last.only o7 nlb).only o8 (by simpa using (h.last.only o7 nlb).not_cells hb7), ?_, ?_, h.gn, h.gl, fun c' hc' i hi' => ?_, h.fn, hvf⟩
  · exact (h.tt.only.trans' o7 fun g hg => .inr (h.fp_ g (by simpa using hg))).trans' o8 fun g hg => .inr (by rw [List.mem_singleton.1 hg]; exact h.fn.2.2.1)
  · rw [e]
    exact hs.far hv _
  · have := hb7.set_ 5 v'
    simpa [dcells] using this
  · rw [List.take_succ_eq_append_getElem hk, hc] at hc'
    rcases List.mem_append.1 hc' with hc' | hc'
    · exact h.gp c' hc' i hi'
    · rw [List.mem_singleton.1 hc'] at hi'
      exact hi i hi'
end
theorem info_flt : (Try.prog.info? 83).map (fun i => (i.zero, i.size, i.bytes)) = some (some (.agg #[.int .i64 0, .int .i64 0, .int .i64 0]), 3, 24) := by kernel_rfl
theorem fcs_one (l : List Flt) : ∀ u ∈ fcs l, u.oneCell' = true := by
  intro u hu
  unfold fcs at hu
  obtain ⟨c, hc, hu⟩ := List.mem_flatten.1 hu
  obtain ⟨x, _, rfl⟩ := List.mem_map.1 hc
  simp at hu
  rcases hu with rfl | rfl | rfl <;> rfl
theorem chg_cap {k N : Nat} (h : k < N) (hN : N ≤ 1048576) : k + 1 ≤ maxLen ∧ (k + 1) * 16 ≤ 140737488355328 := ⟨by unfold maxLen; omega, by omega⟩
theorem dcells_at {w : World} {d T nb lb : Nat} {p : PD} {pv fv : Value} (hb : Blk w d T (dcells p nb lb pv fv)) :
    w.cell? ⟨d, 0, none⟩ = some (.bool true) ∧ w.cell? ⟨d, 1, none⟩ = some (.bool p.up) ∧ w.cell? ⟨d, 2, none⟩ = some (iv p.most) ∧ w.cell? ⟨d, 3, none⟩ = some (.map (some nb)) ∧ w.cell? ⟨d, 4, none⟩ = some (.map (some lb)) ∧ w.cell? ⟨d, 5, none⟩ = some pv ∧
    w.cell? ⟨d, 6, none⟩ = some (iv p.cnt.cr) ∧ w.cell? ⟨d, 7, none⟩ = some (iv p.cnt.ap) ∧ w.cell? ⟨d, 8, none⟩ = some (iv p.cnt.sy) ∧ w.cell? ⟨d, 9, none⟩ = some (iv p.cnt.cu) ∧ w.cell? ⟨d, 10, none⟩ = some (iv p.cnt.rn) ∧ w.cell? ⟨d, 11, none⟩ = some (iv p.cnt.rm) ∧
    w.cell? ⟨d, 12, none⟩ = some (iv p.cnt.ds) ∧ w.cell? ⟨d, 13, none⟩ = some (iv p.cnt.all) ∧ w.cell? ⟨d, 14, none⟩ = some (iv p.cnt.by_) ∧ w.cell? ⟨d, 15, none⟩ = some fv ∧ w.cell? ⟨d, 16, none⟩ = some (iv p.since) :=
  ⟨hb.cell 0, hb.cell 1, hb.cell 2, hb.cell 3, hb.cell 4, hb.cell 5, hb.cell 6, hb.cell 7, hb.cell 8, hb.cell 9, hb.cell 10, hb.cell 11, hb.cell 12, hb.cell 13, hb.cell 14, hb.cell 15, hb.cell 16⟩
set_option maxRecDepth 100000 in
set_option maxHeartbeats 6400000 in
theorem copy_ok (h0 : DK w F d p fs ids) (hpl : p.pend.length ≤ 1048576) : Calls Try.prog 25 #[cp d] w fun e w' => ∃ d', e = .returned (cp d') ∧ ∃ σ gs js,
    DK w' (fun k => w.heap.size ≤ k ∧ k < w'.heap.size) d' (p.ren σ) gs js ∧ Only [] w w' ∧ (∀ i, Lv p i → gs (σ i) = fs i) ∧ ∀ i j, Lv p i → Lv p j → σ i = σ j → i = j := by
  obtain ⟨⟨nb, lb, pv, fv, bv, lv, h⟩, hF⟩ := h0
  obtain ⟨jf, fi, fz0, fz1, fz2⟩ := info_parts info_flt
  obtain ⟨j103, si, sz0, sz1, sz2⟩ := info_parts info103
  obtain ⟨pa, pc, hpv, _, _⟩ := h.dm.pend.shape
  obtain ⟨fa, fc, hfv, _, _⟩ := h.dm.flt.shape
  subst hpv
  subst hfv
  obtain ⟨N, hN⟩ : ∃ N, p.pend.length = N := ⟨_, rfl⟩
  obtain ⟨M, hM⟩ : ∃ M, p.faults.length = M := ⟨_, rfl⟩
  have HN := Lib.hid hN
  have HM := Lib.hid hM
  have H := Lib.hid h
  have HPL := Lib.hid (hN ▸ hpl)
  have hmk : ∀ w, (Instr.makeMap 106 none).run Try.prog w = .ok (.map (some w.heap.size)) (w.alloc (.map #[] 0)) := fun _ => rfl
  have HO1 := Lib.hid ((Only.refl [] w).alloc (.map #[] 0))
  have hb := h.dm.blk.only HO1.out (by simp)
  have xl := h.dm.blk.lt
  have y0 := h.dm.blk.cell 0
  simp [dcells] at y0
  obtain ⟨x0, x1, x2, x3, x4, x5, x6, x7, x8, x9, x10, x11, x12, x13, x14, x15, x16⟩ := dcells_at hb
  rw [hN] at x5
  rw [hM] at x15
  rw [hN, hM] at H
  have xl2 := hb.lt
  have HP1 := Lib.hid (PMap.new w)
  have HH1 := Lib.hid (show w.heap.size < (w.alloc (.map #[] 0)).heap.size by simp)
  clear h hF hpl hb hN hM
  go_enter Try.func25, Try.ntmps25
  go_upto_region 4 with fail
  obtain ⟨w1, hw1⟩ : ∃ w1, w.alloc (.map #[] 0) = w1 := ⟨_, rfl⟩
  obtain ⟨mb, hmb⟩ : ∃ mb, w.heap.size = mb := ⟨_, rfl⟩
  rw [hw1] at x0 x1 x2 x3 x4 x5 x6 x7 x8 x9 x10 x11 x12 x13 x14 x15 x16 xl2 HO1 HP1 HH1 ⊢
  rw [hmb] at HP1 HH1 ⊢
  have HMB := Lib.hid hmb
  clear hw1 hmb hmk y0 xl
  go_wp2_with (refine wpList_store_blk (g := w1.heap.size) (k := 0) rfl 59 (.tmp 4) (.tmp 19) rfl (dcells p nb lb (.slice pa N pc) (.slice fa M fc)).toList rfl rfl (Blk.new w1 59 #[.bool false, .bool false, iv 0, .map none, .map none, .slice none 0 0, iv 0, iv 0, iv 0, iv 0, iv 0, iv 0, iv 0, iv 0, iv 0, .slice none 0 0, iv 0]) (by kernel_rfl) (by simp [dcells]) (by simp [dcells, Value.oneCell']) ?_)
  intro w2 hB hO
  have HB2 := Lib.hid (show Blk w2 w1.heap.size 59 (dcells p nb lb (.slice pa N pc) (.slice fa M fc)) by simpa [dcells] using hB)
  have HO2 := Lib.hid (HO1.out.trans (only_new hO))
  have HP2 := Lib.hid (HP1.out.only (only_new hO) (by simp))
  obtain ⟨kb, hkb⟩ : ∃ kb, w1.heap.size = kb := ⟨_, rfl⟩
  have HKB := Lib.hid (show mb < kb ∧ kb < w2.heap.size ∧ d < mb from ⟨hkb ▸ HH1.out, by have := HB2.out.lt; omega, by rw [← HMB.out]; exact H.out.dm.blk.lt⟩)
  rw [hkb] at HB2 ⊢
  clear hB hO hkb x0 x1 x2 x3 x4 x5 x6 x7 x8 x9 x10 x11 x12 x13 x14 x15 x16 xl2 HP1 HH1 HO1
  have HDC := Lib.hid (fun wx (ho : Only [mb, kb] w2 wx) => show wx.cell? ⟨d, 3, none⟩ = some (.map (some nb)) ∧ wx.cell? ⟨d, 4, none⟩ = some (.map (some lb)) from by
    have hb := (H.out.dm.blk.only HO2.out (by simp)).only ho (by have := HKB.out; simp; omega)
    exact ⟨by have := hb.cell 3; simpa [dcells] using this, by have := hb.cell 4; simpa [dcells] using this⟩)
  have HDL := Lib.hid (fun wx (ho : Only [mb, kb] w2 wx) => show d < wx.heap.size from by
    have := ho.size
    have := HKB.out
    omega)
  have HT2 := Lib.hid (show TO w w2 w.heap.size mb [] [] fs (Lv p) from ⟨⟨fs, bv, lv, fun _ => False, HP2.out, ⟨fun i hi => hi.elim, fun i j g hi => hi.elim, fun i j g hi => hi.elim, fun i j g hi => hi.elim, fun i hi => hi.elim, fun i g hi => hi.elim, fun i g hi => hi.elim⟩, (fun x y h => by cases h), (fun x z y h => by cases h)⟩, fun _ _ h => h, fun _ h => .inl h, HO2.out.mono (by simp)⟩)
  have HFM := Lib.hid (show ∀ i, Lv p i → ∃ b l, FM w i (fs i) b l from fun i hi => ⟨_, _, H.out.fs.file i (hi.ids H.out.live)⟩)
  have HDD := Lib.hid (fun (wx : World) (m : List (Nat × Nat)) (ht : TO w wx w.heap.size mb [] m fs (Lv p)) (n : Nat) (A : Dir) (hd : DMap w n A) (hA : ∀ x ∈ A, Lv p x.2) => dcopy_ok (base := w.heap.size) (mb := mb) (hd.only ht.only (by have h1 := hd.lt; have := HMB.out; simp; omega)) ht.tx ht.only.size
    (fun q hq => (by
      rcases ht.new q hq with h1 | h1
      · cases h1
      · obtain ⟨b, l, hf⟩ := HFM.out _ h1
        exact Lies.only ⟨_, _, hf.blk⟩ ht.only (by have := hf.blk.lt; have := HMB.out; simp; omega) : Lies wx q.1)) (fun x hx => by
      obtain ⟨b, l, hf⟩ := HFM.out _ (hA x hx)
      exact ⟨b, l, FM.far hf ht.only fun k hk t cs hc => by rw [List.mem_singleton.1 hk] at hc; have := hc.lt; have := HMB.out; omega⟩) (by have h1 := hd.lt; have := HMB.out; omega))
  have HK0 := HDC.out w2 (Only.refl _ _)
  have HK0l := HDL.out w2 (Only.refl _ _)
  go_upto_region 5 with fail
  go_region_held3 (fun w' => w'.cell? ⟨d, 3, none⟩ = some (.map (some nb)) ∧ w'.cell? ⟨d, 4, none⟩ = some (.map (some lb))) (first | with_reducible exact HK0 | with_reducible exact HK1 | with_reducible exact HK2 | exact HDC.out _ (HOK.out.setCell (.inl (by simp)) _) | exact HDC.out _ ((HOK.out.setCell (.inl (by simp)) _).setCell (.inl (by simp)) _) | go_keep) (first
    | (go_at_call 46; refine (HDD.out _ _ (HT3.out.then0 (by first | exact Only.refl _ _ | exact (Only.refl _ _).drew )) lb p.last H.out.dm.last (fun x hx => .inr (.inl ⟨x, hx, rfl⟩))).mono ?_
       rintro e w4 ⟨b2, rfl, m2, ht2, hd2, hs2, hg2⟩
       have HT4 : Hid (TO w w4 w.heap.size mb [] m2 fs (Lv p)) := Lib.hid ((HT3.out.then0 (by first | exact Only.refl _ _ | exact (Only.refl _ _).drew)).trans ht2 fun i ⟨x, hx, e⟩ => .inr (.inl ⟨x, hx, e⟩))
       have HO4 : Hid (Only [mb] w3 w4) := Lib.hid (by first | exact ht2.only | exact ((Only.refl [] w3).drew.mono (by simp)).trans ht2.only)
       have HD2 : Hid (DMap w4 b2 (dren (sg m2) p.last) ∧ (∀ x ∈ p.last, (pGet m2 x.2).isSome = true) ∧ w3.heap.size ≤ b2) := Lib.hid ⟨hd2, hs2, hg2⟩
       have HOL : Hid (∀ z u, pGet m1 z = some u → pGet m2 z = some u) := Lib.hid ht2.old
       have HOK : Hid (Only [mb, kb] w2 w4) := Lib.hid ((HO3.out.trans HO4.out).mono (by simp))
       have HK2 := HDC.out w4 HOK.out
       have HK2l := HDL.out w4 HOK.out
       have HB4 := Lib.hid (HB2.out.only (HO3.out.trans HO4.out) (by have := HKB.out; simp; omega))
       have zf := HB4.out.frozen
       have zl := HB4.out.lt
       have z3 := HB4.out.cell 3
       have z4 := HB4.out.cell 4
       simp [dcells] at z3 z4
       clear ht2 hd2 hs2 hg2)
    | (go_at_call 46; refine (HDD.out _ _ (HT2.out.then0 (by first | exact Only.refl _ _ | exact (Only.refl _ _).drew )) nb p.now H.out.dm.now (fun x hx => .inl ⟨x, hx, rfl⟩)).mono ?_
       rintro e w3 ⟨b1, rfl, m1, ht1, hd1, hs1, hg1⟩
       have HT3 : Hid (TO w w3 w.heap.size mb [] m1 fs (Lv p)) := Lib.hid ((HT2.out.then0 (by first | exact Only.refl _ _ | exact (Only.refl _ _).drew)).trans ht1 fun i ⟨x, hx, e⟩ => .inl ⟨x, hx, e⟩)
       have HO3 : Hid (Only [mb] w2 w3) := Lib.hid (by first | exact ht1.only | exact ((Only.refl [] w2).drew.mono (by simp)).trans ht1.only)
       have HD1 : Hid (DMap w3 b1 (dren (sg m1) p.now) ∧ (∀ x ∈ p.now, (pGet m1 x.2).isSome = true) ∧ w2.heap.size ≤ b1) := Lib.hid ⟨hd1, hs1, hg1⟩
       have HK1 := HDC.out w3 (HO3.out.mono (by simp))
       have HK1l := HDL.out w3 (HO3.out.mono (by simp))
       clear ht1 hd1 hs1 hg1))
  have z5 := HB4.out.cell 5
  simp [dcells] at z5
  have HBE := Lib.hid (show Blk (((w4.setCell ⟨kb, 3, none⟩ (.map (some b1))).setCell ⟨kb, 4, none⟩ (.map (some b2))).setCell ⟨kb, 5, none⟩ (.slice none 0 0)) kb 59 (dcells p b1 b2 (.slice none 0 0) (.slice fa M fc)) by
    have := ((HB4.out.set_ 3 (.map (some b1))).set_ 4 (.map (some b2))).set_ 5 (.slice none 0 0)
    simpa [dcells] using this)
  have HOE := Lib.hid (show Only [kb] w4 (((w4.setCell ⟨kb, 3, none⟩ (.map (some b1))).setCell ⟨kb, 4, none⟩ (.map (some b2))).setCell ⟨kb, 5, none⟩ (.slice none 0 0)) from (((Only.refl [kb] w4).setCell (.inl (by simp)) _).setCell (.inl (by simp)) _).setCell (.inl (by simp)) _)
  go_upto_region 7 with fail
  obtain ⟨w5, hw5⟩ : ∃ w5, ((w4.setCell ⟨kb, 3, none⟩ (.map (some b1))).setCell ⟨kb, 4, none⟩ (.map (some b2))).setCell ⟨kb, 5, none⟩ (.slice none 0 0) = w5 := ⟨_, rfl⟩
  rw [hw5] at HBE HOE ⊢
  have HCB := Lib.hid (show CB w w5 mb kb b1 b2 p (.slice fa M fc) fs 0 (.slice none 0 0) m2 from by
    have hmp := HT4.out.tx.map_
    have hnb := (HD1.out.1.only HO4.out (by have := HD1.out.2.2; have := HKB.out; simp; omega)).only HOE.out (by simpa using (HD1.out.1.only HO4.out (by have := HD1.out.2.2; have := HKB.out; simp; omega)).not_cells HB4.out)
    obtain ⟨e1, e2⟩ := ren_old HOL.out HD1.out.2.1
    have hlt1 := HD1.out.1.lt
    have h3 := HO3.out.size
    refine ⟨⟨HT4.out.tx.far HOE.out fun g hg => ?_, HT4.out.old, HT4.out.new, HT4.out.only.trans' HOE.out fun g hg => .inr (by rw [List.mem_singleton.1 hg]; have := HKB.out; have := HMB.out; omega)⟩, ?_, HD2.out.1.only HOE.out (by simpa using HD2.out.1.not_cells HB4.out), ?_, HBE.out, e2, HD2.out.2.1, (fun c hc => by simp at hc), ?_, (fun g hg => by cases hg)⟩
    · rw [List.mem_singleton.1 hg]
      refine ⟨fun t cs hc => ?_, by have := HKB.out; omega⟩
      rw [show t = 59 from Classical.byContradiction fun hne => Blk.ne_ hc HB4.out hne rfl]
      decide
    · rw [← e1]; exact hnb
    · exact Sl.nil _ _ _
    · have := HKB.out
      have := HMB.out
      have := HD1.out.2.2
      have := HD2.out.2.2
      have := HO2.out.size
      omega)
  clear hw5 HB4 HK0 HK0l HK1 HK1l HK2 HK2l HD1 HD2 HT2 HT3 HT4 HO3 HO4 HOL HOK HOE HBE HDD HDC HDL zf zl z3 z4 z5 HP2 HB2
  have hOW := fun wr' (h : CB w wr' mb kb b1 b2 p (.slice fa M fc) fs 0 (.slice none 0 0) m2) => h.tt.only
  clear hOW
  have HCO := Lib.hid (fun (wx : World) (k : Nat) (pvv : Value) (m : List (Nat × Nat)) (h : CB w wx mb kb b1 b2 p (.slice fa M fc) fs k pvv m) => show Only [] w wx from h.tt.only.mono' fun g hg => .inr (by rw [List.mem_singleton.1 hg]; exact Nat.le_of_eq HMB.out))
  have HHD := Lib.hid (fun (wx : World) (ho : Only [] w wx) => show wx.cell? ⟨d, 5, none⟩ = some (.slice pa N pc) ∧ wx.cell? ⟨d, 15, none⟩ = some (.slice fa M fc) ∧ d < wx.heap.size from by
    have hb := H.out.dm.blk.only ho (by simp)
    exact ⟨hb.cell 5, hb.cell 15, hb.lt⟩)
  obtain ⟨y5, y15, yl⟩ := HHD.out w5 (HCO.out _ _ _ _ HCB.out)
  go_wp2
  go_loopw [40] (fun z40 wr => ∃ (k : Nat) (pvv : Value) (m : List (Nat × Nat)), z40 = .int .i64 k ∧ Hid (k ≤ N) ∧ Hid (CB w wr mb kb b1 b2 p (.slice fa M fc) fs k pvv m)) (fun z40 _ => N - (intOf z40).toNat)
  case atStart => exact ⟨0, _, m2, rfl, Lib.hid (Nat.zero_le _), HCB⟩
  clear HCB
  case round =>
    obtain ⟨k, pvv, m, rfl, HK, HC⟩ := hrel
    have HOR := Lib.hid (HCO.out _ _ _ _ HC.out)
    obtain ⟨xa, xc, hpv, _, _⟩ := HC.out.pend.shape
    subst hpv
    have z5 := HC.out.blk.cell 5
    have zl := HC.out.blk.lt
    have zf := HC.out.blk.frozen
    simp [dcells] at z5
    clear y5 y15 yl
    by_cases hkl : k < N
    case neg =>
      have hkz : ¬ (k : Int) < (N : Int) := nlt_z hkl
      have HE := Lib.hid (Nat.le_antisymm HK.out (Nat.le_of_not_lt hkl))
      clear hkl
      have HFL := Lib.hid ((H.out.only0 HOR.out).dm.flt)
      obtain ⟨y5, y15, yl⟩ := HHD.out wr HOR.out
      have z15 := HC.out.blk.cell 15
      simp [dcells] at z15
      go_wp2_with (at_builtin; refine wpList_append_sls rfl (.const (.slice none 0 0)) (.tmp 56) 30 rfl 83 jf _ 3 24 Try.underlying30 fi fz0 fz1 fz2 rfl (by decide) rfl (Sl.nil _ _ _) rfl HFL.out (fcs_one p.faults) (by have := H.out.ok.flt; have := HM.out; unfold maxLen; omega) (by have := H.out.ok.flt; have := HM.out; omega) ?_)
      intro v7 w7 hS7 hg7 hat7
      have hS8 : Sl w7 83 3 v7 p.faults.length (fcs p.faults) := by simpa using hS7
      have HO7 := Lib.hid (show Only [] w w7 from HOR.out.grown hg7 fun k hk => by cases hk)
      have HD := Lib.hid (CB.done HC.out (by rw [HN.out, HE.out]; exact Nat.le_refl _) (by rw [HN.out]; exact HK.out) H.out.ok (v' := v7) hS8 hg7 (hat7.imp (fun e => e.trans rfl) fun e => e))
      obtain ⟨qa, qc, hqv, _, _⟩ := hS8.shape
      subst hqv
      clear hS7 hS8 hg7 hat7 y5 y15 yl z5 zl zf z15 HFL
      have z15 := HD.out.1.cell 15
      have zl := HD.out.1.lt
      have zf := HD.out.1.frozen
      simp [dcells] at z15
      have HO8 := Lib.hid (show Only [] w (w7.setCell ⟨kb, 15, none⟩ (.slice qa p.faults.length qc)) from HO7.out.setCell (.inr HC.out.fn.2.2.1) _)
      go_wp2
      obtain ⟨_, gs, js, q1, q2, q3⟩ := HD.out
      exact bodyPost_ret (results_tmp rfl _ _ _) rfl ⟨kb, rfl, sg m, gs, js, q1, HO8.out, q2, q3⟩
    have hkz : (k : Int) < (N : Int) := lt_z hkl
    have hka : k < p.pend.length := by rw [HN.out]; exact hkl
    have HS : Hid (Sl wr 109 1 (.slice pa N pc) p.pend.length (p.pend.map chgV)) := Lib.hid (H.out.only0 HOR.out).dm.pend
    rw [HN.out] at HS
    obtain ⟨g, o, c', hv, hfm⟩ := HS.out.form (by omega)
    injection hv with hva hvl hvc
    subst hva
    subst hvc
    clear hvl hfm
    have y0 := HS.out.cells_ k (chgV p.pend[k]) (by simp [hka])
    rw [Addr.add_lit] at y0
    obtain ⟨c, hc⟩ : ∃ c, p.pend[k] = c := ⟨_, rfl⟩
    rw [hc] at y0
    rw [chg_iface] at y0
    have HLV := Lib.hid (show ∀ i ∈ c.ids, Lv p i from fun i hi => .inr (.inr ⟨c, by rw [← hc]; exact List.getElem_mem hka, hi⟩))
    have HE8 := Lib.hid (wrap_sm (by have := HPL.out; omega) hkl)
    have HMS := Lib.hid (meas hkl)
    have HKL := Lib.hid hkl
    have HCAP := Lib.hid (chg_cap hkl HPL.out)
    have HPC := Lib.hid (show ∃ hk : k < p.pend.length, p.pend[k] = c from ⟨hka, hc⟩)
    have hm := m_copy c
    have hcc := c_copy c
    have hna := na_copy c
    have hmf : ∀ (fn : Fn) (first cap : Array Value) (w : World), (Instr.makeFunc fn first cap).run Try.prog w = .ok (.func fn first cap) w := fun _ _ _ _ => rfl
    have HCA := Lib.hid (fun wx (ho : Only [] wr wx) => copy_any (base := w.heap.size) (HC.out.quiet ho).tt.tx ((HC.out.quiet ho).tt.only.size) (fun q hq => (by
      rcases (HC.out.quiet ho).tt.new q hq with h1 | h1
      · cases h1
      · obtain ⟨b, l, hf⟩ := HFM.out _ h1
        exact Lies.only ⟨_, _, hf.blk⟩ (HOR.out.trans ho) (by simp) : Lies wx q.1)) c (fun i hi => by
      obtain ⟨b, l, hf⟩ := HFM.out i (HLV.out i hi)
      exact ⟨b, l, FM.only0 hf (HOR.out.trans ho)⟩))
    clear hkl hka hc HS
    go_upto_region 10 with fail
    clear hkz
    go_region_law (first
      | (go_simp; refine (HCA.out _ (by first | exact Only.refl _ _ | exact (Only.refl _ _).drew)).mono ?_
         rintro e w6 ⟨c', rfl, m', ht, hc', hi⟩
         subst hc'
         rw [chg_iface]
         have HC6 : Hid (CB w w6 mb kb b1 b2 p (.slice fa M fc) fs k (.slice xa k xc) m') := Lib.hid (by first | exact HC.out.go ht HLV.out | exact (HC.out.quiet (Only.refl [] wr).drew).go ht HLV.out)
         have HI6 := Lib.hid hi
         have z56 := HC6.out.blk.cell 5
         have zl6 := HC6.out.blk.lt
         have zf6 := HC6.out.blk.frozen
         simp [dcells] at z56
         clear ht hi)
      | (refine step_append_sls rfl (.tmp 45) (.tmp 49) 57 rfl 109 j103 _ 1 16 Try.underlying57 si sz0 sz1 sz2 rfl (by decide) rfl (HC6.out.pend.alloc _) rfl (sl_one (Blk.new _ _ _)) (by simp [Value.oneCell']) (by have := HKL.out; have := HPL.out; unfold maxLen; omega) (by have := HKL.out; have := HPL.out; omega) ?_
         intro v7 w7 hS7 hg7 hat7
         rw [← chg_iface] at hS7
         obtain ⟨hk7, hc7⟩ := HPC.out
         have HP7 := Lib.hid (CB.push (HC6.out.quiet ((Only.refl _ _).alloc _)) hk7 hc7 HI6.out hS7 hg7 hat7)
         obtain ⟨qa, qc, hqv, _, _⟩ := hS7.shape
         subst hqv
         have z57 := HP7.out.1.cell 5
         have zl7 := HP7.out.1.lt
         have zf7 := HP7.out.1.frozen
         simp [dcells] at z57
         clear hS7 hg7 hat7 hk7 hc7))
    all_goals
      clear z5 zl zf z56 zl6 zf6 y0 hm hcc hna hmf
      go_wp2
      go_roundw
      case measure => (try rw [HE8.out]); exact HMS.out
      case rel => exact ⟨k + 1, _, m', by first | rfl | rw [HE8.out], Lib.hid HKL.out, Lib.hid HP7.out.2⟩
end
end Go.Proofs.Ythekilgolelomaa
