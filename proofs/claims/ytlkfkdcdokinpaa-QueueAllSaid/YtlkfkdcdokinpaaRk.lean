/-
  The document's own queue: Clear.
-/
import Derived.Test.YtlkfkdcdokinpaaRg
import Derived.Test.YtlkfkdcdokinpaaTd
namespace Go.Proofs.Ytlkfkdcdokinpaa
open Go.RowKit Go.Fl

theorem r_clear {w w0 wr : World} {r : Nat} {cap bytes : Int} {held line : List Item} {iv lv v : Value} {xs : List Int} (h : ROk w r cap bytes held line iv lv) (ho : Only [] w wr) (hs : w.heap.size ≤ w0.heap.size) (hF : FreshI w0 wr v xs) :
    FreshI w ((wr.setCell ⟨r, 2, none⟩ (.slice none 0 0)).setCell ⟨r, 3, none⟩ (.slice none 0 0)) v xs ∧ RStep w ((wr.setCell ⟨r, 2, none⟩ (.slice none 0 0)).setCell ⟨r, 3, none⟩ (.slice none 0 0)) r (rblocks r iv lv) cap bytes [] [] := by
  have hr := (h.only ho (by simp))
  have hvr := blk_sl_ne hr.B hF.1 (by decide)
  have hB : RB ((wr.setCell ⟨r, 2, none⟩ (.slice none 0 0)).setCell ⟨r, 3, none⟩ (.slice none 0 0)) r cap bytes (.slice none 0 0) (.slice none 0 0) := by
    simpa [RB] using (hr.B.set_ 2 (.slice none 0 0)).set_ 3 (.slice none 0 0)
  refine ⟨⟨(hF.1.far (p := ⟨r, 2, none⟩) hvr _).far (p := ⟨r, 3, none⟩) hvr _, fun g hg => Nat.le_trans hs (hF.2 g hg)⟩, [r], ⟨.slice none 0 0, .slice none 0 0, ⟨⟨by have := h.cap0; simp; omega, h.okh.cap1, by have := h.byt0; simp [sum]; omega, h.okh.byt1, fun x hx => by simp at hx⟩, fun x hx => by simp at hx, h.cap0, h.byt0, by simp, hB, Sl.nil _ _ _, Sl.nil _ _ _, fun g hg => by simp [Value.ownBlock] at hg⟩, fun g hg => by simpa [rblocks, Value.ownBlock] using hg⟩, ?_, ?_⟩
  · exact ((ho.mono (by simp)).setCell (p := ⟨r, 2, none⟩) (.inl mem_r) _).setCell (p := ⟨r, 3, none⟩) (.inl mem_r) _
  · intro g hg
    simp at hg
    exact .inl (hg ▸ mem_r)

set_option maxRecDepth 100000 in
set_option maxHeartbeats 1600000 in
theorem rclear_go {r : Nat} {cap bytes : Int} {held line : List Item} {iv lv : Value} (w : World) (h : ROk w r cap bytes held line iv lv) :
    Calls Try.prog 20 #[.pointer (some ⟨r, 0, none⟩)] w fun e w' => ∃ v, e = .returned v ∧ FreshI w w' v (idsOf (held ++ line)) ∧ RStep w w' r (rblocks r iv lv) cap bytes [] [] := by
  obtain ⟨j0, hi, hz0, hz1, hz2⟩ := info_parts info38
  obtain ⟨j2, ki, kz0, kz1, kz2⟩ := info_parts info2
  obtain ⟨a, c, hiv, _, _⟩ := h.I.shape
  obtain ⟨a2, c2, hlv, _, _⟩ := h.L.shape
  obtain ⟨hcell, hfz, hlt⟩ := h.B.facts
  have hl1 := h.okh.len
  have hl2 := h.okh.cap1
  have hl3 := h.lenl
  have H := Lib.hid h
  clear h
  subst hiv
  subst hlv
  go_enter Try.func20, Try.ntmps20
  go_wp2
  go_region_held3 (fun w' => w'.cell? ⟨r, 2, none⟩ = some (.slice a held.length c) ∧ w'.cell? ⟨r, 3, none⟩ = some (.slice a2 line.length c2)) (first | exact ⟨hcell 2, hcell 3⟩ | exact HK2 | exact HK1)
    (first
      | (refine step_append_sls rfl (.tmp 10) (.tmp 14) 31 rfl 38 j0 _ 2 16 Try.underlying31 hi hz0 hz1 hz2 rfl (by decide) rfl HS1.out rfl HL1.out (cells_one _) (by unfold maxLen; omega) (by omega) ?_; intro v2 w2 hS2 hg2 hat2; obtain ⟨b2, d2, hv2, _, _⟩ := hS2.shape; have HS2 := Lib.hid hS2; clear hS2 hat2; subst hv2; have HO2 := Lib.hid (HO1.out.grown hg2 (fun k hk => .inr (HF1.out k hk))); have H2 := Lib.hid (H.out.only HO2.out (by simp)); have HK2 : w2.cell? ⟨r, 2, none⟩ = some (.slice a held.length c) ∧ w2.cell? ⟨r, 3, none⟩ = some (.slice a2 line.length c2) := ⟨H2.out.B.cell 2, H2.out.B.cell 3⟩)
      | (refine step_append_sls rfl (.const (.slice none 0 0)) (.tmp 9) 31 rfl 38 j0 _ 2 16 Try.underlying31 hi hz0 hz1 hz2 rfl (by decide) rfl (Sl.nil _ _ _) rfl H.out.I.drew (cells_one _) (by unfold maxLen; omega) (by omega) ?_; intro v1 w1 hS1 hg1 hat1; have HO1 := Lib.hid ((Only.refl [] w).drew.grown hg1 (fun k hk => by cases hk)); have HF1 : Hid (∀ k, v1.ownBlock = some k → w.heap.size ≤ k) := Lib.hid (fun k hk => by rcases hat1 with h | h; { exact nomatch (h.symm.trans hk) }; { rw [h] at hk; injection hk with hk; subst hk; simp }); have H1 := Lib.hid (H.out.only HO1.out (by simp)); have HL1 := Lib.hid H1.out.L; have HS1 := Lib.hid (show Sl w1 38 2 v1 held.length (cells held) by simpa using hS1); clear hS1 hg1 hat1; have HK1 : w1.cell? ⟨r, 2, none⟩ = some (.slice a held.length c) ∧ w1.cell? ⟨r, 3, none⟩ = some (.slice a2 line.length c2) := ⟨H1.out.B.cell 2, H1.out.B.cell 3⟩))
  go_wp2
  have HALL := Lib.hid (show Sl w2 38 2 (.slice b2 (held.length + line.length : Nat) d2) (held.length + line.length) (cells (held ++ line)) by rw [cells_append]; exact HS2.out)
  have HN := Lib.hid (show (held ++ line).length = held.length + line.length by simp)
  have HO2s := Lib.hid HO2.out.size
  go_loopw [3, 5] (fun v i wr => ∃ k : Nat, k ≤ held.length + line.length ∧ i = .int .i64 k ∧ Hid (FreshI w2 wr v (idsOf ((held ++ line).take k))) ∧ Hid (Only [] w2 wr)) (fun _ i _ => held.length + line.length - (intOf i).toNat)
  case atStart => exact ⟨0, Nat.zero_le _, rfl, Lib.hid ⟨Sl.nil _ _ _, fun g hg => by simp [Value.ownBlock] at hg⟩, Lib.hid (Only.refl _ _)⟩
  case round =>
    obtain ⟨k, hk, rfl, HFk, HOk⟩ := hrel
    by_cases hkl : k < held.length + line.length
    · obtain ⟨x, hx⟩ : ∃ x, (held ++ line)[k]? = some x := ⟨_, List.getElem?_eq_getElem (by have := HN.out; omega)⟩
      obtain ⟨g2, o, c', hv, hg, _, _, hcc, _⟩ := (HALL.out.only HOk.out (by simp)).form (by omega)
      injection hv with hva hvl hvc
      subst hva
      subst hvc
      clear hvl
      have e1 := (hcc (k * 2) (by omega)).trans (cells_at _ k _ hx).1
      have HX := Lib.hid hx
      clear hcc hx
      have HX9 := Lib.hid (show Blk (wr.alloc (.cells #[.int .i64 x.1] 2)) wr.heap.size 2 #[.int .i64 x.1] from Blk.new _ _ _)
      have HO3 := Lib.hid (HOk.out.alloc (.cells #[.int .i64 x.1] 2))
      go_wp2_with (at_builtin; refine wpList_append_one (news := [.int .i64 x.1]) rfl (.tmp 22) (.tmp 28) 32 rfl 2 j2 _ 1 8 Try.underlying32 ki kz0 kz1 kz2 rfl (by decide) rfl (HFk.out.1.alloc _) rfl HX9.out rfl (by simp [Value.oneCell']) (by have := ids_take_le held line k; unfold maxLen; omega) (by have := ids_take_le held line k; omega) ?_; intro v4 w4 hown4 hg4 hat4)
      go_roundw
      case rel => exact ⟨k + 1, by omega, by go_num, Lib.hid (ids_step HX.out HFk.out.2 hown4 hat4 (by have := HOk.out.size; simp; omega)), Lib.hid (HO3.out.grown hg4 (fun g hg => .inr (HFk.out.2 g hg)))⟩
      case measure => simp [intOf]; omega
    · obtain rfl : k = held.length + line.length := by omega
      have H5 := Lib.hid (H2.out.only HOk.out (by simp))
      have hF5 := HFk.out
      rw [List.take_of_length_le (by simp)] at hF5
      have HF5 := Lib.hid hF5
      have HO5 := Lib.hid (HO2.out.trans HOk.out)
      clear hcell hfz hlt
      obtain ⟨hcell, hfz, hlt⟩ := H5.out.B.facts
      have HT := Lib.hid (r_clear H.out HO5.out HO2s.out HF5.out)
      clear HFk hF5 hg2 hk hkl HK2 HK1
      go_wp2
      go_ret
      exact ⟨_, rfl, HT.out⟩
theorem rclear_ok {r : Nat} {cap bytes : Int} {held line : List Item} {S : List Nat} (w : World) (h : RIs w r S cap bytes held line) :
    Calls Try.prog 20 #[.pointer (some ⟨r, 0, none⟩)] w fun e w' => ∃ v, e = .returned v ∧ FreshI w w' v (idsOf (held ++ line)) ∧ RStep w w' r S cap bytes [] [] := by
  obtain ⟨iv, lv, h, hS⟩ := h
  refine (rclear_go w h).mono ?_
  rintro e w' ⟨v, h1, h2, h3⟩
  exact ⟨v, h1, h2, h3.mono hS⟩
end Go.Proofs.Ytlkfkdcdokinpaa
