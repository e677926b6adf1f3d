/-
  The disk: Sync.
-/
import Derived.Test.YthekilgolelomaaDo
import Derived.Deep.RegionLaw
set_option linter.unusedSimpArgs false
set_option linter.unusedVariables false
namespace Go.Proofs.Ythekilgolelomaa
open Go.RowKit Go.Fl

/-- A file that lasts whole. -/
def FD.sync (f : FD) : FD := ⟨f.b, f.lasts ++ f.kept f.tail.length, 0⟩
section
variable {w w' : World} {F G : Nat → Prop} {d : Nat} {p p' : PD} {fs : Nat → FD} {ids : Nat → Prop} {nb lb : Nat} {pv fv pv' fv' bv lv : Value}
theorem FM.only0 {i : Nat} {f : FD} (h : FM w i f bv lv) (ho : Only [] w w') : FM w' i f bv lv := h.keep (ho.block i h.blk.lt (by simp)) (fun g hg => ho.block g (h.b.lt g hg) (by simp)) (fun g hg => ho.block g (h.l.lt g hg) (by simp))
/-- What lasts has been laid. -/
theorem sync_fact {i : Nat} {f : FD} {w2 w4 : World} {v4 : Value} (h : FM w i f bv lv) (hs : ∀ g, bv.ownBlock = some g → lv.ownBlock ≠ some g) (ho : Only [] w w2)
    (hS : Sl w4 5 1 v4 (f.lasts.length + f.tail.length) (byV f.lasts ++ byV (f.kept f.tail.length))) (hg : w2.grownBy w4 lv.ownBlock) (hat : v4.ownBlock = lv.ownBlock ∨ v4.ownBlock = some w2.heap.size) (hk : (f.kept f.tail.length).length = f.tail.length) :
    Blk (w4.setCell ⟨i, 1, none⟩ v4) i 87 #[bv, v4, iv f.marked] ∧ FM ((w4.setCell ⟨i, 1, none⟩ v4).setCell ⟨i, 2, none⟩ (iv 0)) i f.sync bv v4 ∧ Only (i :: lv.ownBlock.toList) w ((w4.setCell ⟨i, 1, none⟩ v4).setCell ⟨i, 2, none⟩ (iv 0)) ∧
      ∀ g, v4.ownBlock = some g → lv.ownBlock = some g ∨ w.heap.size ≤ g := by
  have hs2 := ho.size
  have o4 : Only lv.ownBlock.toList w w4 := (ho.mono (by simp)).grown hg fun k hk => .inl (by simp [hk])
  have nl : lv.ownBlock ≠ some i := fun e => by
    obtain ⟨cur, hc⟩ := Go.Proofs.Ythekilgolelomaa.Sl.blk h.l e
    exact Blk.ne_ hc h.blk (by decide) rfl
  have nb : bv.ownBlock ≠ some i := fun e => by
    obtain ⟨cur, hc⟩ := Go.Proofs.Ythekilgolelomaa.Sl.blk h.b e
    exact Blk.ne_ hc h.blk (by decide) rfl
  have hb4 : Blk w4 i 87 #[bv, lv, iv f.marked] := h.blk.only o4 fun hm => nl (by simpa using hm)
  have hbb : Sl w4 5 1 bv f.b.length (byV f.b) := h.b.only o4 fun g hg hm => hs g hg (by simpa using hm)
  have hown : ∀ g, v4.ownBlock = some g → lv.ownBlock = some g ∨ w.heap.size ≤ g := fun g hg => by
    rcases hat with e | e
    · exact .inl (e ▸ hg)
    · rw [e] at hg
      injection hg with hg
      exact .inr (by omega)
  have hv : v4.ownBlock ≠ some i := fun e => by
    rcases hown i e with e2 | e2
    · exact nl e2
    · have := h.blk.lt
      omega
  have hb5 : Blk (w4.setCell ⟨i, 1, none⟩ v4) i 87 #[bv, v4, iv f.marked] := by
    have := hb4.set_ 1 v4
    simpa using this
  refine ⟨hb5, ⟨?_, ?_, ?_, ?_⟩, ((o4.mono fun k hk => List.mem_cons_of_mem _ hk).setCell (.inl (by simp)) _).setCell (.inl (by simp)) _, hown⟩
  · have := hb5.set_ 2 (iv 0)
    simpa [FD.sync] using this
  · exact (hbb.far nb _).far nb _
  · have h1 := (hS.far (p := ⟨i, 1, none⟩) hv v4).far (p := ⟨i, 2, none⟩) hv (iv 0)
    have e1 : f.sync.lasts.length = f.lasts.length + f.tail.length := by unfold FD.sync; rw [List.length_append, hk]
    have e2 : byV f.sync.lasts = byV f.lasts ++ byV (f.kept f.tail.length) := by unfold FD.sync; rw [byV_append]
    rw [e1, e2]
    exact h1
  · have h1 := h.ok
    have e1 : f.sync.lasts.length = f.lasts.length + f.tail.length := by unfold FD.sync; rw [List.length_append, hk]
    have e2 : f.tail.length = f.b.length - f.lasts.length := by unfold FD.tail; simp
    refine ⟨?_, Nat.zero_le _, h1.2.2⟩
    rw [e1, e2]
    have := h1.1
    show f.lasts.length + (f.b.length - f.lasts.length) ≤ f.b.length
    omega
set_option maxRecDepth 100000 in
set_option maxHeartbeats 1600000 in
theorem sync_ok {i : Nat} {f : FD} (h : FM w i f bv lv) (hs : ∀ g, bv.ownBlock = some g → lv.ownBlock ≠ some g) : Calls Try.prog 35 #[fp i] w fun e w' =>
    e = .returned (.tuple #[]) ∧ ∃ l', FM w' i f.sync bv l' ∧ Only (i :: lv.ownBlock.toList) w w' ∧ ∀ g, l'.ownBlock = some g → lv.ownBlock = some g ∨ w.heap.size ≤ g := by
  obtain ⟨j5, si, sz0, sz1, sz2⟩ := info_parts info5
  have H := Lib.hid h
  have HS := Lib.hid hs
  have HKT := Lib.hid (kept_len f (Nat.le_refl _))
  have HTL := Lib.hid (show f.lasts.length + f.tail.length ≤ 1073741824 by unfold FD.tail; have := h.ok.2.2; have := h.ok.1; simp; omega)
  obtain ⟨la, lc, hlv, _, _⟩ := h.l.shape
  subst hlv
  have HY := Lib.hid (fun wx (ho : Only [] w wx) => show wx.cell? ⟨i, 1, none⟩ = some (.slice la f.lasts.length lc) from by
    have := (FM.only0 h ho).blk.cell 1
    simpa using this)
  have x1 := HY.out w (Only.refl _ _)
  have x1d := HY.out w.drew ((Only.refl _ _).drew)
  have xl := h.blk.lt
  have xf := h.blk.frozen
  clear h hs
  go_enter Try.func35, Try.ntmps35
  go_upto_region 0 with fail
  go_region_law (first
    | (go_simp; go_at_call 47; refine (tail_ok (FM.only0 H.out (by first | exact Only.refl _ _ | exact (Only.refl _ _).drew | exact (Only.refl _ _).drewN _))).mono ?_
       rintro e w1 ⟨v, rfl, hs1, ho1⟩
       obtain ⟨ta, tc, hv, htc, _⟩ := hs1.shape
       subst hv
       have HO1 : Hid (Only [] w w1) := Lib.hid (by first | exact ho1 | exact ho1.drew | exact (Only.refl [] w).drew.trans ho1)
       have HK1 := HY.out w1 HO1.out
       have HK1d := HY.out w1.drew HO1.out.drew
       clear hs1 ho1 htc)
    | (go_simp; go_at_call 48; refine (kept_ok (FM.only0 H.out (by first | exact HO1.out | exact HO1.out.drew | exact HO1.out.drewN _)) (Nat.le_refl _)).mono ?_
       rintro e w2 ⟨v2, rfl, hs2, ho2, hw2⟩
       have HO2 : Hid (Only [] w w2) := Lib.hid (by first | exact HO1.out.trans ho2 | exact HO1.out.drew.trans ho2)
       have HK2 := HY.out w2 HO2.out
       have HK2d := HY.out w2.drew HO2.out.drew
       obtain ⟨ka, kc, hv2, _, _⟩ := hs2.shape
       subst hv2
       have HS2 := Lib.hid hs2
       have HL2 := Lib.hid (FM.only0 H.out HO2.out).l
       have HF2 := Lib.hid (FM.only0 H.out HO2.out)
       clear hs2 ho2 hw2)
    | (refine step_append_sls rfl (.tmp 6) (.tmp 11) 29 rfl 5 j5 _ 1 1 Try.underlying29 si sz0 sz1 sz2 rfl (by decide) rfl (by first | exact HL2.out | exact HL2.out.drew) rfl (by first | exact HS2.out | exact HS2.out.drew) (by intro u hu; obtain ⟨c, _, rfl⟩ := List.mem_map.1 hu; rfl) (by have := HTL.out; unfold maxLen; omega) (by have := HTL.out; omega) ?_
       intro v4 w4 hS4 hg4 hat4
       obtain ⟨va, vc, hv4, _, _⟩ := hS4.shape
       subst hv4
       have HS4 := Lib.hid hS4
       have HG4 : Hid (w2.grownBy w4 (Value.slice la f.lasts.length lc).ownBlock) := Lib.hid hg4
       have HA4 := Lib.hid hat4
       have HB4 : Blk w4 i 87 #[bv, .slice la f.lasts.length lc, iv f.marked] := Blk.grown HF2.out.blk HG4.out (fun e => by
         obtain ⟨cur, hc⟩ := Go.Proofs.Ythekilgolelomaa.Sl.blk HF2.out.l e
         exact Blk.ne_ hc HF2.out.blk (by decide) rfl)
       have xf4 := HB4.frozen
       have xl4 := HB4.lt
       have HK4 := HB4.cell 1
       simp at HK4
       clear hS4 hg4 hat4))
  all_goals
    have HE := Lib.hid (sync_fact H.out HS.out HO2.out HS4.out HG4.out HA4.out HKT.out)
    have xl5 := HE.out.1.lt
    have xf5 := HE.out.1.frozen
    have c5 := HE.out.1.cell 2
    simp at c5
    clear x1 x1d xl xf HK1 HK1d HK2 HK2d HK4 xf4 xl4 HB4
    go_wp2
    exact bodyPost_end (results_none rfl _ _ _) rfl ⟨rfl, _, HE.out.2⟩
end
end Go.Proofs.Ythekilgolelomaa
