/-
  The disk: contracts on the whole disk; a file turns.
-/
import Derived.Test.YthekilgolelomaaDk
set_option linter.unusedSimpArgs false
set_option linter.unusedVariables false
namespace Go.Proofs.Ythekilgolelomaa
open Go.RowKit Go.Fl

section
variable {w w' : World} {F G : Nat → Prop} {d : Nat} {p p' : PD} {fs : Nat → FD} {ids : Nat → Prop} {nb lb : Nat} {pv fv pv' fv' : Value} {bv lv : Nat → Value}
theorem find_dk (h : DK w F d p fs ids) (s : Nm) : Calls Try.prog 30 #[cp d, sk s] w fun e w' => e = .returned (.tuple #[optP (findR p s).1, iv (findR p s).2]) ∧ w' = w := by
  obtain ⟨⟨nb, lb, pv, fv, bv, lv, h⟩, _⟩ := h
  exact find_ok h.dm s
theorem room_dk (h : DK w F d p fs ids) : Calls Try.prog 33 #[cp d] w fun e w' => e = .returned (iv (p.room fs)) ∧ Only [] w w' := by
  obtain ⟨⟨nb, lb, pv, fv, bv, lv, h⟩, _⟩ := h
  exact room_ok h
theorem befall_dk (h : DK w F d p fs ids) (x : Flt) (hx : x.2.1 ≠ 4) : Calls Try.prog 34 #[cp d, fltV x] w fun e w' => e = .returned (iv (befR x)) ∧ After w F d (p.bef x) fs ids w' := by
  obtain ⟨⟨nb, lb, pv, fv, bv, lv, h⟩, hF⟩ := h
  refine (befall_ok h.dm x hx).mono ?_
  rintro e w' ⟨rfl, hd, ho⟩
  exact ⟨rfl, After.kept h hF (hd.mono fun k hk => (.inl hk : grow F w w' k)) (ho.mono fun k hk => by rw [List.mem_singleton.1 hk]; exact own_d _ _ _ _ _) (h.live.bef x) (h.ok.bef x)⟩
theorem opd_cr (h : DK w F d p fs ids) : Calls Try.prog 32 #[cp d, .pointer (some ⟨d, 6, none⟩)] w fun e w' => e = .returned (fltV (p.op .cr).flt) ∧ After w F d (p.op .cr) fs ids w' := by
  obtain ⟨⟨nb, lb, pv, fv, bv, lv, h⟩, hF⟩ := h
  refine (op_cr h.dm (Nat.le_trans h.ok.flt (by decide))).mono ?_
  rintro e w' ⟨rfl, hd, ho⟩
  exact ⟨rfl, After.kept h hF (hd.mono fun k hk => (.inl hk : grow F w w' k)) (ho.mono fun k hk => by rw [List.mem_singleton.1 hk]; exact own_d _ _ _ _ _) (h.live.op .cr) (h.ok.op .cr)⟩
theorem opd_ap (h : DK w F d p fs ids) : Calls Try.prog 32 #[cp d, .pointer (some ⟨d, 7, none⟩)] w fun e w' => e = .returned (fltV (p.op .ap).flt) ∧ After w F d (p.op .ap) fs ids w' := by
  obtain ⟨⟨nb, lb, pv, fv, bv, lv, h⟩, hF⟩ := h
  refine (op_ap h.dm (Nat.le_trans h.ok.flt (by decide))).mono ?_
  rintro e w' ⟨rfl, hd, ho⟩
  exact ⟨rfl, After.kept h hF (hd.mono fun k hk => (.inl hk : grow F w w' k)) (ho.mono fun k hk => by rw [List.mem_singleton.1 hk]; exact own_d _ _ _ _ _) (h.live.op .ap) (h.ok.op .ap)⟩
theorem opd_sy (h : DK w F d p fs ids) : Calls Try.prog 32 #[cp d, .pointer (some ⟨d, 8, none⟩)] w fun e w' => e = .returned (fltV (p.op .sy).flt) ∧ After w F d (p.op .sy) fs ids w' := by
  obtain ⟨⟨nb, lb, pv, fv, bv, lv, h⟩, hF⟩ := h
  refine (op_sy h.dm (Nat.le_trans h.ok.flt (by decide))).mono ?_
  rintro e w' ⟨rfl, hd, ho⟩
  exact ⟨rfl, After.kept h hF (hd.mono fun k hk => (.inl hk : grow F w w' k)) (ho.mono fun k hk => by rw [List.mem_singleton.1 hk]; exact own_d _ _ _ _ _) (h.live.op .sy) (h.ok.op .sy)⟩
theorem opd_cu (h : DK w F d p fs ids) : Calls Try.prog 32 #[cp d, .pointer (some ⟨d, 9, none⟩)] w fun e w' => e = .returned (fltV (p.op .cu).flt) ∧ After w F d (p.op .cu) fs ids w' := by
  obtain ⟨⟨nb, lb, pv, fv, bv, lv, h⟩, hF⟩ := h
  refine (op_cu h.dm (Nat.le_trans h.ok.flt (by decide))).mono ?_
  rintro e w' ⟨rfl, hd, ho⟩
  exact ⟨rfl, After.kept h hF (hd.mono fun k hk => (.inl hk : grow F w w' k)) (ho.mono fun k hk => by rw [List.mem_singleton.1 hk]; exact own_d _ _ _ _ _) (h.live.op .cu) (h.ok.op .cu)⟩
theorem opd_rn (h : DK w F d p fs ids) : Calls Try.prog 32 #[cp d, .pointer (some ⟨d, 10, none⟩)] w fun e w' => e = .returned (fltV (p.op .rn).flt) ∧ After w F d (p.op .rn) fs ids w' := by
  obtain ⟨⟨nb, lb, pv, fv, bv, lv, h⟩, hF⟩ := h
  refine (op_rn h.dm (Nat.le_trans h.ok.flt (by decide))).mono ?_
  rintro e w' ⟨rfl, hd, ho⟩
  exact ⟨rfl, After.kept h hF (hd.mono fun k hk => (.inl hk : grow F w w' k)) (ho.mono fun k hk => by rw [List.mem_singleton.1 hk]; exact own_d _ _ _ _ _) (h.live.op .rn) (h.ok.op .rn)⟩
theorem opd_rm (h : DK w F d p fs ids) : Calls Try.prog 32 #[cp d, .pointer (some ⟨d, 11, none⟩)] w fun e w' => e = .returned (fltV (p.op .rm).flt) ∧ After w F d (p.op .rm) fs ids w' := by
  obtain ⟨⟨nb, lb, pv, fv, bv, lv, h⟩, hF⟩ := h
  refine (op_rm h.dm (Nat.le_trans h.ok.flt (by decide))).mono ?_
  rintro e w' ⟨rfl, hd, ho⟩
  exact ⟨rfl, After.kept h hF (hd.mono fun k hk => (.inl hk : grow F w w' k)) (ho.mono fun k hk => by rw [List.mem_singleton.1 hk]; exact own_d _ _ _ _ _) (h.live.op .rm) (h.ok.op .rm)⟩
theorem opd_ds (h : DK w F d p fs ids) : Calls Try.prog 32 #[cp d, .pointer (some ⟨d, 12, none⟩)] w fun e w' => e = .returned (fltV (p.op .ds).flt) ∧ After w F d (p.op .ds) fs ids w' := by
  obtain ⟨⟨nb, lb, pv, fv, bv, lv, h⟩, hF⟩ := h
  refine (op_ds h.dm (Nat.le_trans h.ok.flt (by decide))).mono ?_
  rintro e w' ⟨rfl, hd, ho⟩
  exact ⟨rfl, After.kept h hF (hd.mono fun k hk => (.inl hk : grow F w w' k)) (ho.mono fun k hk => by rw [List.mem_singleton.1 hk]; exact own_d _ _ _ _ _) (h.live.op .ds) (h.ok.op .ds)⟩
theorem find_dk_some (h : DK w F d p fs ids) {s : Nm} (he : (findR p s).2 = 0) : ∃ f, findR p s = (some f, 0) ∧ p.now.get s = some f ∧ ids f := by
  obtain ⟨⟨nb, lb, pv, fv, bv, lv, h⟩, _⟩ := h
  exact find_some h he
theorem DK.lt (h : DK w F d p fs ids) : d < w.heap.size := by
  obtain ⟨⟨nb, lb, pv, fv, bv, lv, h⟩, _⟩ := h
  exact h.dm.blk.lt
theorem DK.ok (h : DK w F d p fs ids) : p.Ok := by
  obtain ⟨⟨nb, lb, pv, fv, bv, lv, h⟩, _⟩ := h
  exact h.ok
/-- Bytes are counted. -/
def PD.byte (p : PD) (n : Int) : PD := { p with cnt := { p.cnt with by_ := wrap64 (p.cnt.by_ + n) } }
theorem bytes_dk (h : DK w F d p fs ids) (n : Int) : w.cell? ⟨d, 14, none⟩ = some (iv p.cnt.by_) ∧ (∀ i, w.frozen? ⟨d, i, none⟩ = false) ∧ d < w.heap.size ∧ After w F d (p.byte n) fs ids (w.setCell ⟨d, 14, none⟩ (iv (wrap64 (p.cnt.by_ + n)))) := by
  obtain ⟨⟨nb, lb, pv, fv, bv, lv, h⟩, hF⟩ := h
  have ho : Only [d] w (w.setCell ⟨d, 14, none⟩ (iv (wrap64 (p.cnt.by_ + n)))) := (Only.refl [d] w).setCell (.inl (by simp)) _
  refine ⟨?_, h.dm.blk.frozen, h.dm.blk.lt, ?_⟩
  · have := h.dm.blk.cell 14
    simpa [dcells] using this
  · refine After.kept h hF (pv' := pv) (fv' := fv) (DM.mono (F := F) (h.dm.nums ?_ ho rfl rfl rfl rfl) fun k hk => .inl hk) (ho.mono fun k hk => by rw [List.mem_singleton.1 hk]; exact own_d _ _ _ _ _) ⟨h.live.now, h.live.last, h.live.pend⟩ ⟨h.ok.snow, h.ok.slast, h.ok.go, h.ok.ok, h.ok.len, h.ok.flt, h.ok.most, h.ok.pre⟩
    have := h.dm.blk.set_ 14 (iv (wrap64 (p.cnt.by_ + n)))
    simpa [dcells, PD.byte] using this
/-- One file turns. -/
theorem FS.put (h : FS w F ids fs bv lv) {i : Nat} (hi : ids i) {f : FD} {b' l' : Value} {S : List Nat} (ho : Only S w w') (hS : ∀ k ∈ S, k = i ∨ (bv i).ownBlock = some k ∨ (lv i).ownBlock = some k ∨ w.heap.size ≤ k)
    (hf : FM w' i f b' l') (hb : ∀ g, b'.ownBlock = some g → (bv i).ownBlock = some g ∨ w.heap.size ≤ g) (hl : ∀ g, l'.ownBlock = some g → (lv i).ownBlock = some g ∨ w.heap.size ≤ g)
    (hbl : ∀ g, b'.ownBlock = some g → l'.ownBlock ≠ some g) : FS w' (grow F w w') ids (upd fs i f) (upd bv i b') (upd lv i l') := by
  have tb : ∀ {j g}, ids j → (bv j).ownBlock = some g → ∃ cur, Blk w g 5 cur := fun hj hg => Go.Proofs.Ythekilgolelomaa.Sl.blk (h.file _ hj).b hg
  have tl : ∀ {j g}, ids j → (lv j).ownBlock = some g → ∃ cur, Blk w g 5 cur := fun hj hg => Go.Proofs.Ythekilgolelomaa.Sl.blk (h.file _ hj).l hg
  have ltb : ∀ {j g}, ids j → (bv j).ownBlock = some g → g < w.heap.size := fun hj hg => (h.file _ hj).b.lt _ hg
  have ltl : ∀ {j g}, ids j → (lv j).ownBlock = some g → g < w.heap.size := fun hj hg => (h.file _ hj).l.lt _ hg
  have nf : ∀ {j k g}, ids j → ids k → (bv j).ownBlock = some g ∨ (lv j).ownBlock = some g → g ≠ k := fun {j k g} hj hk hg e => by
    subst e
    rcases hg with hg | hg
    · obtain ⟨cur, hc⟩ := tb hj hg
      exact Blk.ne_ hc (h.file _ hk).blk (by decide) rfl
    · obtain ⟨cur, hc⟩ := tl hj hg
      exact Blk.ne_ hc (h.file _ hk).blk (by decide) rfl
  have keep : ∀ {j}, ids j → j ≠ i → FM w' j (fs j) (bv j) (lv j) := fun {j} hj hji => by
    have hfj := h.file j hj
    refine hfj.keep (ho.block j hfj.blk.lt fun hm => ?_) (fun g hg => ho.block g (ltb hj hg) fun hm => ?_) (fun g hg => ho.block g (ltl hj hg) fun hm => ?_)
    · rcases hS j hm with e | e | e | e
      · exact hji e
      · exact nf hi hj (.inl e) rfl
      · exact nf hi hj (.inr e) rfl
      · have := hfj.blk.lt; omega
    · rcases hS g hm with e | e | e | e
      · exact nf hj hi (.inl hg) e
      · exact h.s2 j i g hj hi hji hg e
      · exact h.s1 j i g hj hi hg e
      · have := ltb hj hg; omega
    · rcases hS g hm with e | e | e | e
      · exact nf hj hi (.inr hg) e
      · exact h.s1 i j g hi hj e hg
      · exact h.s3 j i g hj hi hji hg e
      · have := ltl hj hg; omega
  have eb : ∀ {j g}, (upd bv i b' j).ownBlock = some g → (j = i ∧ b'.ownBlock = some g) ∨ (j ≠ i ∧ (bv j).ownBlock = some g) := fun {j g} hg => by
    by_cases e : j = i
    · subst e; rw [upd_at] at hg; exact .inl ⟨rfl, hg⟩
    · rw [upd_ne _ _ e] at hg; exact .inr ⟨e, hg⟩
  have el : ∀ {j g}, (upd lv i l' j).ownBlock = some g → (j = i ∧ l'.ownBlock = some g) ∨ (j ≠ i ∧ (lv j).ownBlock = some g) := fun {j g} hg => by
    by_cases e : j = i
    · subst e; rw [upd_at] at hg; exact .inl ⟨rfl, hg⟩
    · rw [upd_ne _ _ e] at hg; exact .inr ⟨e, hg⟩
  refine ⟨fun j hj => ?_, fun j k g hj hk hg hl2 => ?_, fun j k g hj hk hjk hg hl2 => ?_, fun j k g hj hk hjk hg hl2 => ?_, fun j hj => .inl (h.fi j hj), fun j g hj hg => ?_, fun j g hj hg => ?_⟩
  · by_cases e : j = i
    · subst e
      rw [upd_at, upd_at, upd_at]
      exact hf
    · rw [upd_ne _ _ e, upd_ne _ _ e, upd_ne _ _ e]
      exact keep hj e
  · rcases eb hg with ⟨e1, hg⟩ | ⟨e1, hg⟩ <;> rcases el hl2 with ⟨e2, hl2⟩ | ⟨e2, hl2⟩
    · exact hbl g hg hl2
    · rcases hb g hg with hg | hg
      · exact h.s1 i k g hi hk hg hl2
      · have := ltl hk hl2; omega
    · rcases hl g hl2 with hl2 | hl2
      · exact h.s1 j i g hj hi hg hl2
      · have := ltb hj hg; omega
    · exact h.s1 j k g hj hk hg hl2
  · rcases eb hg with ⟨e1, hg⟩ | ⟨e1, hg⟩ <;> rcases eb hl2 with ⟨e2, hl2⟩ | ⟨e2, hl2⟩
    · exact hjk (e1.trans e2.symm)
    · rcases hb g hg with hg | hg
      · exact h.s2 i k g hi hk (fun e => e2 e.symm) hg hl2
      · have := ltb hk hl2; omega
    · rcases hb g hl2 with hl2 | hl2
      · exact h.s2 j i g hj hi e1 hg hl2
      · have := ltb hj hg; omega
    · exact h.s2 j k g hj hk hjk hg hl2
  · rcases el hg with ⟨e1, hg⟩ | ⟨e1, hg⟩ <;> rcases el hl2 with ⟨e2, hl2⟩ | ⟨e2, hl2⟩
    · exact hjk (e1.trans e2.symm)
    · rcases hl g hg with hg | hg
      · exact h.s3 i k g hi hk (fun e => e2 e.symm) hg hl2
      · have := ltl hk hl2; omega
    · rcases hl g hl2 with hl2 | hl2
      · exact h.s3 j i g hj hi e1 hg hl2
      · have := ltl hj hg; omega
    · exact h.s3 j k g hj hk hjk hg hl2
  · rcases eb hg with ⟨e1, hg⟩ | ⟨e1, hg⟩
    · rcases hb g hg with h2 | h2
      · exact .inl (h.fb i g hi h2)
      · exact .inr ⟨h2, hf.b.lt g hg⟩
    · exact .inl (h.fb j g hj hg)
  · rcases el hg with ⟨e1, hg⟩ | ⟨e1, hg⟩
    · rcases hl g hg with h2 | h2
      · exact .inl (h.fl i g hi h2)
      · exact .inr ⟨h2, hf.l.lt g hg⟩
    · exact .inl (h.fl j g hj hg)
theorem DM.keep_own (h : DM w F d p nb lb pv fv) (hk : ∀ k ∈ own d nb lb pv fv, w'.heap[k]? = w.heap[k]?) : DM w' F d p nb lb pv fv :=
  ⟨(hk d (own_d _ _ _ _ _)).trans h.blk, h.now.keep (hk nb (by simp [own])), h.last.keep (hk lb (by simp [own])), h.ne, h.pend.keep fun g hg => hk g (by simp [own, hg]), h.flt.keep fun g hg => hk g (by simp [own, hg]), h.fd, h.fn, h.fl, h.fp_, h.ff⟩
/-- Files' memory turns: the disk's own stays. -/
theorem DM.files (h : DM w F d p nb lb pv fv) {S : List Nat} (ho : Only S w w') (hS : ∀ k ∈ S, w.heap.size ≤ k ∨ ∃ t cs, Blk w k t cs ∧ t ≠ 59 ∧ t ≠ 109 ∧ t ≠ 83) : DM w' F d p nb lb pv fv := by
  have hlt := h.lts
  refine h.keep_own ?_
  intro k hk
  have hkl : k < w.heap.size := by
    simp [own] at hk
    rcases hk with rfl | rfl | rfl | hk | hk
    · exact hlt.1
    · exact hlt.2.1
    · exact hlt.2.2.1
    · exact hlt.2.2.2.1 k hk
    · exact hlt.2.2.2.2 k hk
  refine ho.block k hkl fun hm => ?_
  rcases hS k hm with e | ⟨t, cs, hb, h1, h2, h3⟩
  · omega
  · exact not_own h hb h1 h2 h3 hk
theorem After.file (h : Dk w F d p fs ids nb lb pv fv bv lv) (hF : ∀ k, F k → k < w.heap.size) {i : Nat} (hi : ids i) {f : FD} {b' l' : Value} {S : List Nat} (ho : Only S w w')
    (hS : ∀ k ∈ S, k = i ∨ (bv i).ownBlock = some k ∨ (lv i).ownBlock = some k ∨ w.heap.size ≤ k)
    (hf : FM w' i f b' l') (hb : ∀ g, b'.ownBlock = some g → (bv i).ownBlock = some g ∨ w.heap.size ≤ g) (hl : ∀ g, l'.ownBlock = some g → (lv i).ownBlock = some g ∨ w.heap.size ≤ g)
    (hbl : ∀ g, b'.ownBlock = some g → l'.ownBlock ≠ some g) : After w F d p (upd fs i f) ids w' := by
  have hd : DM w' F d p nb lb pv fv := h.dm.files ho fun k hk => by
    rcases hS k hk with e | e | e | e
    · subst e
      exact .inr ⟨_, _, (h.fs.file k hi).blk, by decide, by decide, by decide⟩
    · obtain ⟨cur, hc⟩ := Go.Proofs.Ythekilgolelomaa.Sl.blk (h.fs.file i hi).b e
      exact .inr ⟨_, _, hc, by decide, by decide, by decide⟩
    · obtain ⟨cur, hc⟩ := Go.Proofs.Ythekilgolelomaa.Sl.blk (h.fs.file i hi).l e
      exact .inr ⟨_, _, hc, by decide, by decide, by decide⟩
    · exact .inl e
  refine ⟨⟨⟨nb, lb, pv, fv, _, _, hd.mono fun k hk => .inl hk, h.fs.put hi ho hS hf hb hl hbl, h.live, h.ok⟩, grow_lt hF ho.size⟩, Turn.of ho fun k hk => ?_⟩
  rcases hS k hk with e | e | e | e
  · subst e; exact .inl (h.fs.fi k hi)
  · exact .inl (h.fs.fb i k hi e)
  · exact .inl (h.fs.fl i k hi e)
  · exact .inr e
end
end Go.Proofs.Ythekilgolelomaa
