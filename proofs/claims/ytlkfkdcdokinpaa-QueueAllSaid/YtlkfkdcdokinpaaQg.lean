import Derived.Test.YtlkfkdcdokinpaaQf
namespace Go.Proofs.Ytlkfkdcdokinpaa
open Go.RowKit Go.Fl

theorem mem_q {q mb : Nat} {l lv : Value} : q ∈ qblocks q mb l lv := by simp [qblocks]
theorem mem_m {q mb : Nat} {l lv : Value} : mb ∈ qblocks q mb l lv := by simp [qblocks]
theorem mem_l {q mb g : Nat} {l lv : Value} (h : l.ownBlock = some g) : g ∈ qblocks q mb l lv := by simp [qblocks, h]
theorem mem_lv {q mb g : Nat} {l lv : Value} (h : lv.ownBlock = some g) : g ∈ qblocks q mb l lv := by simp [qblocks, h]
theorem idsOf_append (a b : List Item) : idsOf (a ++ b) = idsOf a ++ idsOf b := by simp [idsOf]
theorem imap_ring {w : World} {mb f n : Nat} {l : Value} {held : List Item} {m : List (Int × Value)} (h : IMap w mb .i64 m) (h' : RingIs w l f n held) : l.ownBlock ≠ some mb := by
  rcases h'.2 with ⟨rfl, _⟩ | ⟨r, L, cur, rfl, hb, _⟩
  · simp [Value.ownBlock]
  · have := h.not_cells hb
    simp [Value.ownBlock]; exact fun e => this e.symm
theorem imap_sl {w : World} {mb : Nat} {m : List (Int × Value)} {e s n : Nat} {v : Value} {xs : List Value} (h : IMap w mb .i64 m) (h' : Sl w e s v n xs) : v.ownBlock ≠ some mb := by
  rcases h'.2 with ⟨rfl, _⟩ | ⟨g, off, c, cur, rfl, hh, _⟩
  · simp [Value.ownBlock]
  · have := h.not_cells (t := e) (cs := cur) hh
    simp [Value.ownBlock]; exact fun e => this e.symm

theorem mem_q' {q mb g : Nat} {l lv : Value} : g ∈ qblocks q mb l lv ↔ g = q ∨ g = mb ∨ l.ownBlock = some g ∨ lv.ownBlock = some g := by simp [qblocks]

/-- Someone has come in. -/
theorem put_in {w w3 w4 : World} {q : Nat} {cap bytes : Int} {held line : List Item} {l lv l4 : Value} {f f4 mb : Nat} {ks : List Int} {x : Item} (h : QOk w q cap bytes held line l lv f mb ks) (hx : 0 ≤ x.2 ∧ x.2 ≤ 16777216) (hr : hasRoom cap bytes held x.2 = true) (hl : line = [])
    (hW : Only [mb] w w3) (hM : IMap w3 mb .i64 (setM (ks ++ [x.1]))) (hB : QB w4 q cap bytes (sum held + x.2) l4 (f4 : Nat) (held.length + 1 : Nat) lv (.map (some mb))) (hR : RingIs w4 l4 f4 (held.length + 1) (held ++ [x])) (hO : Only (q :: l.ownBlock.toList) w3 w4) (hN : Renewed w3 l l4) :
    QStep w w4 q (qblocks q mb l lv) cap bytes (held ++ [x]) line := by
  have hmq : mb ≠ q := h.M.not_cells h.B
  have hml := imap_ring h.M h.R
  have hmlv := imap_sl h.M h.S
  have hqlv := sl_ne h.B h.S (by decide)
  have hS3 : Sl w3 38 2 lv line.length (cells line) := h.S.only hW (fun g hg hh => hmlv (by simp at hh; rw [hg, hh]))
  have hsz := hW.size
  refine ⟨qblocks q mb l4 lv, ⟨l4, lv, f4, mb, ks ++ [x.1], ⟨h.okh.more hx hr, h.okl, h.cap0, h.byt0, h.lenl, ?_, ?_, ?_, ?_, ?_, ?_⟩, fun g hg => hg⟩, ?_, ?_⟩
  · simpa [sum_append] using hB
  · simpa using hR
  · exact hS3.only hO (fun g hg hh => by
      rcases List.mem_cons.1 hh with rfl | hh
      · exact hqlv hg
      · exact h.sep g (by simpa using hh) hg)
  · intro g hg hg'
    rcases hN with h1 | h1
    · exact h.sep g (h1 ▸ hg) hg'
    · have := h1 g hg; have := h.S.lt g hg'; omega
  · exact hM.only hO (fun hh => by
      rcases List.mem_cons.1 hh with hh | hh
      · exact hmq hh
      · exact hml (by simpa using hh))
  · subst hl
    have := h.ids
    rw [List.append_nil] at this ⊢
    rw [idsOf_append]
    exact this.append_right [x.1]
  · exact (hW.mono (by simp [qblocks])).trans' (hO.mono (T := qblocks q mb l lv) (fun g hg => by
      rw [mem_q']
      rcases List.mem_cons.1 hg with hg | hg
      · exact .inl hg
      · exact .inr (.inr (.inl (by simpa using hg))))) (fun g hg => .inl hg)
  · intro g hg
    rw [mem_q'] at hg ⊢
    rcases hg with hg | hg | hg | hg
    · exact .inl (.inl hg)
    · exact .inl (.inr (.inl hg))
    · rcases hN with h1 | h1
      · exact .inl (.inr (.inr (.inl (h1 ▸ hg))))
      · have := h1 g hg; exact .inr (by omega)
    · exact .inl (.inr (.inr (.inr hg)))

/-- Someone stands in line. -/
theorem put_line {w w3 w4 : World} {q : Nat} {cap bytes : Int} {held line : List Item} {l lv v4 : Value} {f mb : Nat} {ks : List Int} {x : Item} (h : QOk w q cap bytes held line l lv f mb ks) (hx : 0 ≤ x.2 ∧ x.2 ≤ 16777216) (hll : line.length < 1024)
    (hW : Only [mb] w w3) (hM : IMap w3 mb .i64 (setM (ks ++ [x.1]))) (hS : Sl w4 38 2 v4 (line.length + 1) (cells line ++ [.int .i64 x.1, .int .i64 x.2])) (hO : Only lv.ownBlock.toList w3 w4) (hN : v4.ownBlock = lv.ownBlock ∨ ∀ g, v4.ownBlock = some g → w3.heap.size ≤ g) :
    QStep w (w4.setCell ⟨q, 6, none⟩ v4) q (qblocks q mb l lv) cap bytes held (line ++ [x]) := by
  have hmq : mb ≠ q := h.M.not_cells h.B
  have hml := imap_ring h.M h.R
  have hmlv := imap_sl h.M h.S
  have hqlv := sl_ne h.B h.S (by decide)
  have hql := ring_ne h.B h.R
  have hB4 := (h.B.only hW (by simp [Ne.symm hmq])).only hO (not_own hqlv)
  have hR4 := (h.R.only hW (fun g hg hh => hml (by simp at hh; rw [hg, hh]))).only hO (fun g hg => not_own (h.sep g hg))
  have hM4 := hM.only hO (not_own hmlv)
  have hsz := hW.size
  refine ⟨qblocks q mb l v4, ⟨l, v4, f, mb, ks ++ [x.1], ⟨h.okh, ?_, h.cap0, h.byt0, by simp; omega, ?_, ?_, ?_, ?_, ?_, ?_⟩, fun g hg => hg⟩, ?_, ?_⟩
  · intro y hy
    rcases List.mem_append.1 hy with hy | hy
    · exact h.okl y hy
    · simp at hy; subst hy; exact hx
  · have e := hB4.set_ 6 v4
    simpa [QB] using e
  · exact hR4.keep fun g hg => Below.heap_setCell w4 ⟨q, 6, none⟩ _ g (fun hh => hql (hg.trans (congrArg some hh)))
  · have e := hS.far (p := ⟨q, 6, none⟩) (sl_ne hB4 hS (by decide)) v4
    rw [cells_append, List.length_append]
    exact e
  · intro g hg hg'
    rcases hN with h1 | h1
    · exact h.sep g hg (h1 ▸ hg')
    · have := h1 g hg'; have := h.R.lt g hg; omega
  · exact hM4.far (p := ⟨q, 6, none⟩) hmq v4
  · have := h.ids
    rw [← List.append_assoc, idsOf_append]
    exact this.append_right [x.1]
  · refine Only.setCell (p := ⟨q, 6, none⟩) ?_ (.inl mem_q) v4
    exact (hW.mono (by simp [qblocks])).trans' (hO.mono (T := qblocks q mb l lv) (fun g hg => mem_lv (by simpa using hg))) (fun g hg => .inl hg)
  · intro g hg
    rw [mem_q'] at hg ⊢
    rcases hg with hg | hg | hg | hg
    · exact .inl (.inl hg)
    · exact .inl (.inr (.inl hg))
    · exact .inl (.inr (.inr (.inl hg)))
    · rcases hN with h1 | h1
      · exact .inl (.inr (.inr (.inr (h1 ▸ hg))))
      · have := h1 g hg; exact .inr (by omega)


set_option maxRecDepth 100000 in
set_option maxHeartbeats 3200000 in
theorem put_go {q : Nat} {cap bytes : Int} {held line : List Item} {l lv : Value} {f mb : Nat} {ks : List Int} (id size : Int) (w : World) (h : QOk w q cap bytes held line l lv f mb ks)
    (h1 : ¬ size < 0) (h2 : ¬ bytes < size) (h3 : ks.contains id = false) (h4 : ¬ 1024 ≤ line.length) :
    Calls Try.prog 8 #[.pointer (some ⟨q, 0, none⟩), .int .i64 id, .int .i64 size] w fun e w' => e = .returned (bi (putM cap bytes held line id size).1) ∧
      QStep w w' q (qblocks q mb l lv) cap bytes (putM cap bytes held line id size).2.1 (putM cap bytes held line id size).2.2 := by
  obtain ⟨j0, hi, hz0, hz1, hz2⟩ := info_parts info38
  have hcon := perm_contains h.ids id
  have hp : putM cap bytes held line id size = if line.isEmpty && hasRoom cap bytes held size then ((true, 0), held ++ [(id, size)], line) else ((false, 0), held, line ++ [(id, size)]) := by
    unfold putM
    rw [if_neg h1, if_neg h2, if_neg (by rw [← hcon, h3]; simp), if_neg h4]
  rw [hp]
  clear hp hcon
  obtain ⟨a, c, hlv, _, _⟩ := h.S.shape
  have hni : id ∉ ks := by simpa using h3
  have HC := Lib.hid (there_ok w h.B h.cap0)
  obtain ⟨hcell, hfz, hlt⟩ := h.B.facts
  have H := Lib.hid h
  have H3 := Lib.hid h3
  subst hlv
  clear h h3
  go_enter Try.func8, Try.ntmps8
  go_wp2_with fail
  refine HC.out.mono ?_
  rintro e w1 ⟨rfl, rfl⟩
  go_wp2_with (first
    | (at_lookup; refine wpList_lookup_set rfl (.tmp 22) (.tmp 23) 55 rfl 2 60 Try.underlying55 Try.underlying2 (by kernel_rfl) rfl H.out.M rfl ?_)
    | (refine wpList_mapUpdate rfl (.tmp 49) (.tmp 50) (.tmp 51) 55 rfl 2 60 Try.underlying55 Try.underlying2 rfl ((H.out.M.alloc _).alloc _) rfl rfl ?_))
  intro w2 hM2 hO2
  rw [setM_put H3.out] at hM2
  have hmq : mb ≠ q := H.out.M.not_cells H.out.B
  have hmlt := H.out.M.lt
  have hs2 : w.heap.size + 2 ≤ w2.heap.size := by have := hO2.size; simp at this; omega
  have hB2 := ((H.out.B.alloc (.cells #[] 60)).alloc (.cells #[.int .i64 id, .int .i64 size] 38)).only hO2 (by simp [Ne.symm hmq])
  have hX2 : Blk w2 (w.heap.size + 1) 38 #[.int .i64 id, .int .i64 size] := by
    have := (Blk.new (w.alloc (.cells #[] 60)) 38 #[.int .i64 id, .int .i64 size]).only hO2 (by simp; omega)
    simpa using this
  have hW2 := (((Only.refl [mb] w).alloc (.cells #[] 60)).alloc (.cells #[.int .i64 id, .int .i64 size] 38)).trans hO2
  have hR2 := H.out.R.only hW2 (fun g hg h => imap_ring H.out.M H.out.R (by simp at h; rw [hg, h]))
  have hS2 := H.out.S.only hW2 (fun g hg h => imap_sl H.out.M H.out.S (by simp at h; rw [hg, h]))
  obtain ⟨hcell, hfz, hlt2⟩ := hB2.facts
  obtain ⟨xc, xf, xlt⟩ := hX2.facts
  have HM2 := Lib.hid hM2
  have HB2 := Lib.hid hB2
  have HR2 := Lib.hid hR2
  have HS2 := Lib.hid hS2
  have HW2 := Lib.hid hW2
  have HX2 := Lib.hid hX2
  clear hM2 hO2 hB2 hX2 hW2 hR2 hS2
  have HL4 := Lib.hid (show line.length < 1024 by omega)
  cases line with
  | nil =>
    have HC2 : Calls Try.prog 24 #[.pointer (some ⟨q, 0, none⟩), .agg #[.int .i64 id, .int .i64 size]] w2 fun e w' => e = .returned (.bool (hasRoom cap bytes held size)) ∧ Only [] w2 w' :=
      room_ok (id, size) w2 HB2.out (sum_nonneg H.out.okh.sized) H.out.okh.byt H.out.okh.byt1
    cases hr : hasRoom cap bytes held size with
    | true =>
      rw [hr] at HC2
      have HC2 := Lib.hid HC2
      have HR := Lib.hid hr
      simp only [List.length_nil] at *
      go_wp2_with fail
      refine HC2.out.mono ?_
      rintro e w3 ⟨rfl, ho3⟩
      have hB3 := HB2.out.only ho3 (by simp)
      have hX3 := HX2.out.only ho3 (by simp)
      have hR3 := HR2.out.only ho3 (by simp)
      have HM3 := Lib.hid (HM2.out.only ho3 (by simp))
      have HW3 := Lib.hid (HW2.out.trans' ho3 (by simp))
      obtain ⟨hcell, hfz, hlt3⟩ := hB3.facts
      obtain ⟨xc, xf, xlt3⟩ := hX3.facts
      have HC3 := Lib.hid (hold_ok (id, size) w3 hB3 hR3 (by have := H.out.okh.len; have := H.out.okh.cap1; omega) (sum_nonneg H.out.okh.sized) (Int.le_trans H.out.okh.byt H.out.okh.byt1) (by omega) (by have := H.out.okh.byt1; omega))
      clear hB3 hX3 hR3 ho3
      go_wp2_with fail
      refine HC3.out.mono ?_
      rintro e w4 ⟨rfl, l4, f4, hB4, hR4, hO4, hN4⟩
      have HF := Lib.hid (put_in (x := (id, size)) H.out ⟨by omega, by have := H.out.okh.byt1; omega⟩ HR.out rfl HW3.out HM3.out hB4 hR4 hO4 hN4)
      clear hB4 hR4 hO4 hN4
      go_wp2
      go_ret2
      exact ⟨rfl, HF.out⟩
    | false =>
      rw [hr] at HC2
      have HC2 := Lib.hid HC2
      simp only [List.length_nil] at *
      go_wp2_with fail
      refine HC2.out.mono ?_
      rintro e w3 ⟨rfl, ho3⟩
      have HBX := Lib.hid (HB2.out.only ho3 (by simp))
      have hX3 := HX2.out.only ho3 (by simp)
      have HSX := Lib.hid (HS2.out.only ho3 (by simp))
      have HMX := Lib.hid (HM2.out.only ho3 (by simp))
      have HWX := Lib.hid (HW2.out.trans' ho3 (by simp))
      obtain ⟨hcell, hfz, hlt3⟩ := HBX.out.facts
      obtain ⟨xc, xf, xlt3⟩ := hX3.facts
      clear hX3 ho3
      go_wp2
      refine Lex.wp_region_text (by kernel_rfl) (by kernel_rfl) ?_
      go_wp2_with (at_builtin; refine wpList_append_one rfl (.tmp 70) (.tmp 72) 31 rfl 38 j0 _ 2 16 Try.underlying31 hi hz0 hz1 hz2 rfl (by decide) rfl ((HSX.out.alloc _).drew) rfl ((Blk.new _ _ _).drew) rfl (by simp [Value.oneCell']) (by have := H.out.lenl; unfold maxLen; omega) (by have := H.out.lenl; omega) ?_)
      intro v4 w4 hS4 hg4 hat4
      obtain ⟨a4, c4, hv4, _, _⟩ := hS4.shape
      have ho4 : Only (Value.slice a ([] : List Item).length c).ownBlock.toList w3 w4 := (((Only.refl _ _).alloc _).drew).grown hg4 (fun k hk => .inl (by simp [hk]))
      have hB4 := HBX.out.only ho4 (not_own (sl_ne HBX.out HSX.out (by decide)))
      obtain ⟨hcell, hfz, hlt4⟩ := hB4.facts
      have HS4 := Lib.hid hS4
      have HO4 := Lib.hid ho4
      have HN4 := Lib.hid (show v4.ownBlock = (Value.slice a ([] : List Item).length c).ownBlock ∨ ∀ g, v4.ownBlock = some g → w3.heap.size ≤ g from hat4.imp (fun x => x) (fun hh g hg => by rw [hh] at hg; simp at hg; omega))
      clear hS4 hg4 hat4 ho4 hB4
      subst hv4
      go_wp2
      refine Lex.sq_done (by rfl) ?_
      go_wp2
      all_goals go_ret2
      all_goals exact ⟨rfl, put_line (x := (id, size)) H.out ⟨by omega, by have := H.out.okh.byt1; omega⟩ HL4.out HWX.out HMX.out (by simpa using HS4.out) HO4.out HN4.out⟩
  | cons y line =>
    have HBX := HB2
    have HSX := HS2
    have HMX := HM2
    have HWX := HW2
    simp only [List.length_cons] at *
    go_wp2
    refine Lex.wp_region_text (by kernel_rfl) (by kernel_rfl) ?_
    go_wp2_with (at_builtin; refine wpList_append_one rfl (.tmp 70) (.tmp 72) 31 rfl 38 j0 _ 2 16 Try.underlying31 hi hz0 hz1 hz2 rfl (by decide) rfl ((HSX.out.alloc _).drew) rfl ((Blk.new _ _ _).drew) rfl (by simp [Value.oneCell']) (by have := H.out.lenl; unfold maxLen; omega) (by have := H.out.lenl; omega) ?_)
    intro v4 w4 hS4 hg4 hat4
    obtain ⟨a4, c4, hv4, _, _⟩ := hS4.shape
    have ho4 : Only (Value.slice a (y :: line).length c).ownBlock.toList w2 w4 := (((Only.refl _ _).alloc _).drew).grown hg4 (fun k hk => .inl (by simp [hk]))
    have hB4 := HBX.out.only ho4 (not_own (sl_ne HBX.out HSX.out (by decide)))
    obtain ⟨hcell, hfz, hlt4⟩ := hB4.facts
    have HS4 := Lib.hid hS4
    have HO4 := Lib.hid ho4
    have HN4 := Lib.hid (show v4.ownBlock = (Value.slice a (y :: line).length c).ownBlock ∨ ∀ g, v4.ownBlock = some g → w2.heap.size ≤ g from hat4.imp (fun x => x) (fun hh g hg => by rw [hh] at hg; simp at hg; omega))
    clear hS4 hg4 hat4 ho4 hB4
    subst hv4
    go_wp2
    refine Lex.sq_done (by rfl) ?_
    go_wp2
    all_goals go_ret2
    all_goals exact ⟨rfl, put_line (x := (id, size)) H.out ⟨by omega, by have := H.out.okh.byt1; omega⟩ HL4.out HWX.out HMX.out (by simpa using HS4.out) HO4.out HN4.out⟩
end Go.Proofs.Ytlkfkdcdokinpaa
