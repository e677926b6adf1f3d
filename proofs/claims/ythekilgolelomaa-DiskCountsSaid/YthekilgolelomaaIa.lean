/-
  DiskCounts: what is counted, in plain words; Count.
-/
import Derived.Test.YthekilgolelomaaEa
import Derived.Test.YthekilgolelomaaOb
set_option linter.unusedSimpArgs false
set_option linter.unusedVariables false
namespace Go.Proofs.Ythekilgolelomaa
open Go.RowKit Go.Fl

/-- What has been counted behind k calls. -/
structure CN (c : Cnt) (k : Nat) (all : Int) : Prop where
  all_ : c.all = all
  sum : c.cr + c.ap + c.sy + c.cu + c.rn + c.rm + c.ds = all
  pos : 0 ≤ c.cr ∧ 0 ≤ c.ap ∧ 0 ≤ c.sy ∧ 0 ≤ c.cu ∧ 0 ≤ c.rn ∧ 0 ≤ c.rm ∧ 0 ≤ c.ds
  le : all ≤ k
  by_ : 0 ≤ c.by_ ∧ c.by_ ≤ 5000 * k
/-- One more, and so many bytes. -/
def Cnt.one (c : Cnt) (k : OpK) (n : Int) : Cnt := { c.up k with all := wrap64 (c.all + 1), by_ := wrap64 (c.by_ + n) }
theorem CN.one {c : Cnt} {k : Nat} {all : Int} (h : CN c k all) (hk : k ≤ 1000) (o : OpK) {n : Int} (h0 : 0 ≤ n) (hn : n ≤ 5000) : CN (c.one o n) (k + 1) (all + 1) ∧ c.by_ ≤ (c.one o n).by_ := by
  obtain ⟨h1, h2, h3, h4, h5⟩ := h
  have e1 : wrap64 (c.all + 1) = c.all + 1 := wrap_d (by omega)
  have e2 : wrap64 (c.by_ + n) = c.by_ + n := wrap_d (by omega)
  have e3 : ∀ x, 0 ≤ x → x ≤ 1000 → wrap64 (x + 1) = x + 1 := fun x a b => wrap_d (by omega)
  cases o <;> (unfold Cnt.one Cnt.up; dsimp only; rw [e1, e2, e3 _ (by omega) (by omega)]; refine ⟨⟨?_, ?_, ?_, ?_, ?_⟩, ?_⟩ <;> (try dsimp only) <;> omega)
theorem CN.same {c : Cnt} {k : Nat} {all : Int} (h : CN c k all) : CN c (k + 1) all := by
  obtain ⟨h1, h2, h3, h4, h5⟩ := h
  exact ⟨h1, h2, h3, by omega, by omega⟩
theorem CN.zero : CN Cnt.zero 0 0 := ⟨rfl, rfl, by decide, by decide, by decide⟩
/-- A call's answer, and what it has counted. -/
def Told (p : PD) (e : Int) (p' : PD) : Prop := p'.faults = [] ∧ p'.pend.length ≤ p.pend.length + 1 ∧ (((e = 0 ∨ e = 21) ∧ ∃ o n, 0 ≤ n ∧ n ≤ 5000 ∧ p'.cnt = p.cnt.one o n) ∨ (¬ (e = 0 ∨ e = 21) ∧ p'.cnt = p.cnt))
theorem one_zero (p : PD) (o : OpK) (h : 0 ≤ p.cnt.by_ ∧ p.cnt.by_ ≤ 1000000000) : (p.op o).cnt = p.cnt.one o 0 := by
  unfold Cnt.one
  rw [wrap_d (x := p.cnt.by_ + 0) (by omega), Int.add_zero]
  cases o <;> rfl
section
variable {p : PD} {fs : Nat → FD}
theorem find_not (s : Nm) (h : (findR p s).2 ≠ 0) : ¬ ((findR p s).2 = 0 ∨ (findR p s).2 = 21) := by
  unfold findR at h ⊢
  by_cases hu : p.up = true
  · rw [if_pos hu] at h ⊢
    by_cases hm : mayB s = true
    · rw [if_pos hm] at h ⊢
      cases hg : p.now.get s with
      | none => simp
      | some f => rw [hg] at h; exact absurd rfl h
    · rw [if_neg hm] at h ⊢
      simp
  · rw [if_neg hu] at h ⊢
    simp
theorem told_same (hf : p.faults = []) {e : Int} (he : ¬ (e = 0 ∨ e = 21)) : Told p e p := ⟨hf, by omega, .inr ⟨he, rfl⟩⟩
theorem told_create (hf : p.faults = []) (hb : 0 ≤ p.cnt.by_ ∧ p.cnt.by_ ≤ 1000000000) (s : Nm) (f : Nat) : Told p (p.create s f).1 (p.create s f).2.1 := by
  unfold PD.create
  by_cases h0 : (findR p s).2 = 0
  · rw [if_pos h0]
    exact told_same hf (by simp)
  rw [if_neg h0]
  by_cases h6 : (findR p s).2 ≠ 6
  · rw [if_pos h6]
    exact told_same hf (find_not s h0)
  rw [if_neg h6]
  by_cases hl : 256 ≤ p.now.length
  · rw [if_pos hl]
    exact told_same hf (by simp)
  rw [if_neg hl, no_flt hf, if_pos rfl]
  exact ⟨hf, by simp [PD.chg, PD.op], .inl ⟨.inl rfl, .cr, 0, by decide, by decide, one_zero p .cr hb⟩⟩
theorem told_remove (hf : p.faults = []) (hb : 0 ≤ p.cnt.by_ ∧ p.cnt.by_ ≤ 1000000000) (s : Nm) : Told p (p.remove s).1 (p.remove s).2 := by
  unfold PD.remove PD.chg0
  by_cases h0 : (findR p s).2 = 0
  · rw [if_pos h0, no_flt hf, if_pos (.inl rfl)]
    exact ⟨hf, by simp [PD.chg, PD.op], .inl ⟨.inl rfl, .rm, 0, by decide, by decide, one_zero p .rm hb⟩⟩
  · rw [if_neg h0]
    exact told_same hf (find_not s h0)
theorem told_rename (hf : p.faults = []) (hb : 0 ≤ p.cnt.by_ ∧ p.cnt.by_ ≤ 1000000000) (a b : Nm) : Told p (p.rename a b).1 (p.rename a b).2 := by
  unfold PD.rename PD.chg0
  by_cases h1 : (findR p a).2 = 6 ∧ mayB b = false
  · rw [if_pos h1]
    exact told_same hf (by simp)
  rw [if_neg h1]
  by_cases h0 : (findR p a).2 ≠ 0
  · rw [if_pos h0]
    exact told_same hf (find_not a h0)
  rw [if_neg h0]
  by_cases hm : mayB b = false
  · rw [if_pos hm]
    exact told_same hf (by simp)
  rw [if_neg hm, no_flt hf]
  by_cases hab : a = b
  · rw [if_pos hab, if_pos (.inl rfl)]
    exact ⟨hf, by simp [PD.op], .inl ⟨.inl rfl, .rn, 0, by decide, by decide, one_zero p .rn hb⟩⟩
  · rw [if_neg hab, if_pos (.inl rfl)]
    exact ⟨hf, by simp [PD.chg, PD.op], .inl ⟨.inl rfl, .rn, 0, by decide, by decide, one_zero p .rn hb⟩⟩
theorem told_sdir (hf : p.faults = []) (hb : 0 ≤ p.cnt.by_ ∧ p.cnt.by_ ≤ 1000000000) : Told p p.sdir.1 p.sdir.2 := by
  unfold PD.sdir
  by_cases hu : p.up = false
  · rw [if_pos hu]
    exact told_same hf (by simp)
  · rw [if_neg hu, no_flt hf, if_pos (.inl rfl)]
    exact ⟨hf, by simp [PD.settle], .inl ⟨.inl rfl, .ds, 0, by decide, by decide, one_zero p .ds hb⟩⟩
theorem told_sync (hf : p.faults = []) (hb : 0 ≤ p.cnt.by_ ∧ p.cnt.by_ ≤ 1000000000) (s : Nm) : Told p (p.sync fs s).1 (p.sync fs s).2.1 := by
  unfold PD.sync
  by_cases h0 : (findR p s).2 = 0
  · rw [no_flt hf]
    cases hr : findR p s with
    | mk fo fe =>
      rw [hr] at h0
      cases fo with
      | none =>
        have h1 := find_none (p := p) (s := s)
        exfalso
        unfold findR at hr
        revert hr
        by_cases hu : p.up = true
        · rw [if_pos hu]
          by_cases hm : mayB s = true
          · rw [if_pos hm]
            cases p.now.get s <;> intro hr <;> injection hr with a b
            · rw [← b] at h0; cases h0
            · cases a
          · rw [if_neg hm]
            intro hr
            injection hr with a b
            rw [← b] at h0; cases h0
        · rw [if_neg hu]
          intro hr
          injection hr with a b
          rw [← b] at h0; cases h0
      | some f => exact ⟨hf, by simp [PD.op], .inl ⟨.inl rfl, .sy, 0, by decide, by decide, one_zero p .sy hb⟩⟩
  · have hn := find_none h0
    have h2 := find_not s h0
    cases hr : findR p s with
    | mk fo fe =>
      rw [hr] at hn h2
      dsimp only at hn h2
      subst hn
      exact told_same hf h2
theorem told_append (hf : p.faults = []) (hb : 0 ≤ p.cnt.by_ ∧ p.cnt.by_ ≤ 1000000000) (s : Nm) (data : List UInt8) (hd : data.length ≤ 5000) : Told p (p.append fs s data).1.2 (p.append fs s data).2.1 := by
  unfold PD.append
  cases hr : findR p s with
  | mk fo fe =>
    cases fo with
    | none =>
      have h0 : (findR p s).2 ≠ 0 := fun e => by
        unfold findR at hr e
        revert hr e
        by_cases hu : p.up = true
        · rw [if_pos hu]
          by_cases hm : mayB s = true
          · rw [if_pos hm]
            cases p.now.get s <;> intro hr e
            · cases e
            · injection hr with a b; cases a
          · rw [if_neg hm]
            intro _ e; cases e
        · rw [if_neg hu]
          intro _ e; cases e
      have h2 := find_not s h0
      rw [hr] at h2
      exact told_same hf h2
    | some f =>
      dsimp only
      rw [no_flt hf]
      have hfit : 0 ≤ p.fit fs data.length ∧ p.fit fs data.length ≤ 5000 := by
        unfold PD.fit PD.room
        rw [no_flt hf]
        simp
        omega
      refine ⟨hf, by simp [PD.byte, PD.op, PD.bef], .inl ⟨?_, .ap, p.fit fs data.length, hfit.1, hfit.2, rfl⟩⟩
      unfold appR befR
      simp
      omega
end
section
variable {w w' : World} {F G : Nat → Prop} {d : Nat} {p p' : PD} {fs : Nat → FD} {ids : Nat → Prop} {nb lb : Nat} {pv fv pv' fv' : Value} {bv lv : Nat → Value}
set_option maxRecDepth 100000 in
set_option maxHeartbeats 1600000 in
theorem count_ok (h0 : DK w F d p fs ids) : Calls Try.prog 8 #[cp d] w fun e w' => e = .returned (.agg p.cnt.cells.toArray) ∧ Only [] w w' := by
  obtain ⟨⟨nb, lb, pv, fv, bv, lv, h⟩, hF⟩ := h0
  obtain ⟨c, hc⟩ : ∃ c, p.cnt = c := ⟨_, rfl⟩
  have hb := h.dm.blk.alloc (.cells #[iv 0, iv 0, iv 0, iv 0, iv 0, iv 0, iv 0, iv 0, iv 0] 37)
  have x6 := hb.cell 6
  have x7 := hb.cell 7
  have x8 := hb.cell 8
  have x9 := hb.cell 9
  have x10 := hb.cell 10
  have x11 := hb.cell 11
  have x12 := hb.cell 12
  have x13 := hb.cell 13
  have x14 := hb.cell 14
  have xl := hb.lt
  simp [dcells] at x6 x7 x8 x9 x10 x11 x12 x13 x14
  rw [hc] at x6 x7 x8 x9 x10 x11 x12 x13 x14 ⊢
  clear h hF hb hc
  go_enter Try.func8, Try.ntmps8
  go_wp2_with (refine wpList_store_blk (g := w.heap.size) (k := 0) rfl 37 (.tmp 2) (.tmp 9) rfl [iv c.cr, iv c.ap, iv c.sy, iv c.cu, iv c.rn, iv c.rm, iv c.ds, iv c.all, iv c.by_] rfl rfl (Blk.new w 37 #[iv 0, iv 0, iv 0, iv 0, iv 0, iv 0, iv 0, iv 0, iv 0]) (by kernel_rfl) (by simp) (by simp [Value.oneCell']) ?_)
  intro w2 hB hO
  have HB := Lib.hid (show Blk w2 w.heap.size 37 #[iv c.cr, iv c.ap, iv c.sy, iv c.cu, iv c.rn, iv c.rm, iv c.ds, iv c.all, iv c.by_] by simpa using hB)
  have HO := Lib.hid (only_new hO)
  clear hB hO x6 x7 x8 x9 x10 x11 x12 x13 x14 xl
  go_wp2
  exact bodyPost_ret (results1 rfl (res_blk (cs := [iv c.cr, iv c.ap, iv c.sy, iv c.cu, iv c.rn, iv c.rm, iv c.ds, iv c.all, iv c.by_]) Try.underlying37 (by kernel_rfl) rfl HB.out)) rfl ⟨rfl, HO.out⟩
end
end Go.Proofs.Ythekilgolelomaa
