/-
  The queue's Clear.
-/
import Derived.Test.YtlkfkdcdokinpaaTc
import Derived.Deep.RegionHeld3
namespace Go.Proofs.Ytlkfkdcdokinpaa
open Go.RowKit Go.Fl

theorem ids_take_le (held line : List Item) (k : Nat) : (idsOf ((held ++ line).take k)).length ≤ held.length + line.length := by
  have := List.length_take_le' k (held ++ line)
  simp [idsOf] at *; omega
theorem ids_step {w2 w3 w4 : World} {all : List Item} {k : Nat} {x : Item} {v v4 : Value} (hx : all[k]? = some x) (hF : ∀ g, v.ownBlock = some g → w2.heap.size ≤ g)
    (hown : Sl w4 2 1 v4 ((idsOf (all.take k)).length + 1) (ints (idsOf (all.take k)) ++ [.int .i64 x.1])) (hat : v4.ownBlock = v.ownBlock ∨ v4.ownBlock = some w3.heap.size) (hs : w2.heap.size ≤ w3.heap.size) : FreshI w2 w4 v4 (idsOf (all.take (k + 1))) := by
  obtain ⟨hk, he⟩ := List.getElem?_eq_some_iff.1 hx
  have e : idsOf (all.take (k + 1)) = idsOf (all.take k) ++ [x.1] := by rw [take_succ all k hk, idsOf_append, he]; rfl
  rw [e]
  refine ⟨by simpa [ints] using hown, fun g hg => ?_⟩
  rcases hat with h | h
  · exact hF g (h ▸ hg)
  · rw [h] at hg; simp at hg; omega

theorem clear_end {w0 wr w6 w7 : World} {q : Nat} {cap bytes : Int} {held line : List Item} {l lv v : Value} {f mb : Nat} {ks xs : List Int} (h : QOk wr q cap bytes held line l lv f mb ks) (hB : QB w6 q cap bytes (sum held) (.slice none 0 0) 0 0 lv (.map (some mb)))
    (hM : IMap w7 mb .i64 []) (ho7 : Only [mb] ((w6.setCell ⟨q, 6, none⟩ (.slice none 0 0)).setCell ⟨q, 2, none⟩ (.int .i64 0)) w7) (ho6 : Only [q] wr w6) (hF : Sl w6 2 1 v xs.length (ints xs)) (hf : ∀ g, v.ownBlock = some g → w0.heap.size ≤ g) :
    Sl w7 2 1 v xs.length (ints xs) ∧ QStep wr w7 q (qblocks q mb l lv) cap bytes [] [] := by
  have hmq : mb ≠ q := h.M.not_cells h.B
  have hB7 : QB ((w6.setCell ⟨q, 6, none⟩ (.slice none 0 0)).setCell ⟨q, 2, none⟩ (.int .i64 0)) q cap bytes 0 (.slice none 0 0) 0 0 (.slice none 0 0) (.map (some mb)) := by
    simpa [QB] using (hB.set_ 6 (.slice none 0 0)).set_ 2 (.int .i64 0)
  have hvq := sl_ne hB hF (by decide)
  have hvm : v.ownBlock ≠ some mb := imap_sl (h.M.only ho6 (by simp [hmq])) hF
  refine ⟨((hF.far (p := ⟨q, 6, none⟩) hvq _).far (p := ⟨q, 2, none⟩) hvq _).only ho7 (fun g hg hh => hvm (by simp at hh; rw [hg, hh])), [q, mb], ⟨.slice none 0 0, .slice none 0 0, 0, mb, [], ⟨⟨by have := h.cap0; simp; omega, h.okh.cap1, by have := h.byt0; simp [sum]; omega, h.okh.byt1, fun x hx => by simp at hx⟩, fun x hx => by simp at hx, h.cap0, h.byt0, by simp, ?_, ⟨rfl, .inl ⟨rfl, rfl, rfl⟩⟩, Sl.nil _ _ _, fun g hg => by simp [Value.ownBlock] at hg, hM, by simp [idsOf]⟩, fun g hg => by simpa [qblocks, Value.ownBlock] using hg⟩, ?_, ?_⟩
  · exact hB7.only ho7 (by simp [Ne.symm hmq])
  · exact ((((ho6.mono (T := qblocks q mb l lv) (by simp [qblocks])).setCell (p := ⟨q, 6, none⟩) (.inl mem_q) _).setCell (p := ⟨q, 2, none⟩) (.inl mem_q) _).trans' ho7 (fun g hg => .inl (by simp at hg; rw [hg]; exact mem_m)))
  · intro g hg
    simp at hg
    rcases hg with rfl | rfl
    · exact .inl mem_q
    · exact .inl mem_m

set_option maxRecDepth 100000 in
set_option maxHeartbeats 1600000 in
theorem clear_go {q : Nat} {cap bytes : Int} {held line : List Item} {l lv : Value} {f mb : Nat} {ks : List Int} (w : World) (h : QOk w q cap bytes held line l lv f mb ks) :
    Calls Try.prog 19 #[.pointer (some ⟨q, 0, none⟩)] w fun e w' => ∃ v, e = .returned v ∧ FreshI w w' v (idsOf (held ++ line)) ∧ QStep w w' q (qblocks q mb l lv) cap bytes [] [] := by
  obtain ⟨j0, hi, hz0, hz1, hz2⟩ := info_parts info38
  obtain ⟨j2, ki, kz0, kz1, kz2⟩ := info_parts info2
  have HC := Lib.hid (there_ok w h.B h.cap0)
  have HA := Lib.hid (all_ok w.drew h.B.drew (h.R.keep fun _ _ => rfl) (by have := h.okh.len; have := h.okh.cap1; omega) (ring_ne h.B h.R))
  obtain ⟨hcell, hfz, hlt⟩ := h.B.facts
  have hl1 := h.okh.len
  have hl2 := h.okh.cap1
  have hl3 := h.lenl
  have H := Lib.hid h
  clear h
  go_enter Try.func19, Try.ntmps19
  go_wp2_with fail
  refine HC.out.mono ?_
  clear HC
  rintro e w1 ⟨rfl, rfl⟩
  obtain ⟨a, c, hlv, _, _⟩ := H.out.S.shape
  subst hlv
  go_wp2_with fail
  go_region_held3 (fun w' => w'.cell? ⟨q, 6, none⟩ = some (.slice a line.length c)) (first | exact hcell 6 | exact HK2 | exact HK1)
    (first
      | (go_at_call 38; refine HA.out.mono ?_; rintro e w1 ⟨v1, rfl, hF, hO⟩; have ho := (Only.refl [] w).drew.trans hO; have H1 := Lib.hid (H.out.only ho (by simp)); have HO := Lib.hid ho; clear ho; have HF := Lib.hid hF; clear hF hO; have HK1 := H1.out.B.cell 6)
      | (refine step_append_sls rfl (.tmp 12) (.tmp 16) 31 rfl 38 j0 _ 2 16 Try.underlying31 hi hz0 hz1 hz2 rfl (by decide) rfl HF.out.1 rfl H1.out.S (cells_one _) (by unfold maxLen; omega) (by omega) ?_; intro v2 w2 hS2 hg2 hat2; obtain ⟨a2, c2, hv2, _, _⟩ := hS2.shape; have HS2 := Lib.hid hS2; have HAT2 := Lib.hid hat2; clear hS2 hat2; subst hv2; have HO2 := Lib.hid (HO.out.grown hg2 (fun k hk => .inr (HF.out.2 k hk))); have H2 := Lib.hid (H.out.only HO2.out (by simp)); have HK2 := H2.out.B.cell 6))
  go_wp2
  have HALL := Lib.hid (show Sl w2 38 2 (.slice a2 (held.length + line.length : Nat) c2) (held.length + line.length) (cells (held ++ line)) by rw [cells_append]; exact HS2.out)
  have HN := Lib.hid (show (held ++ line).length = held.length + line.length by simp)
  clear HF HS2
  go_loopw [3, 19] (fun v i wr => ∃ k : Nat, k ≤ held.length + line.length ∧ i = .int .i64 k ∧ Hid (FreshI w2 wr v (idsOf ((held ++ line).take k))) ∧ Hid (Only [] w2 wr)) (fun _ i _ => held.length + line.length - (intOf i).toNat)
  case atStart => exact ⟨0, Nat.zero_le _, rfl, Lib.hid ⟨Sl.nil _ _ _, fun g hg => by simp [Value.ownBlock] at hg⟩, Lib.hid (Only.refl _ _)⟩
  case round =>
    obtain ⟨k, hk, rfl, HFk, HOk⟩ := hrel
    have hlenv := HFk.out.1.len
    by_cases hkl : k < held.length + line.length
    · obtain ⟨x, hx⟩ : ∃ x, (held ++ line)[k]? = some x := ⟨_, List.getElem?_eq_getElem (by have := HN.out; omega)⟩
      obtain ⟨g2, o, c', hv, hg, _, _, hcc, _⟩ := (HALL.out.only HOk.out (by simp)).form (by omega)
      injection hv with hva hvl hvc
      subst hva
      subst hvc
      clear hvl
      have e1 := (hcc (k * 2) (by omega)).trans (cells_at _ k _ hx).1
      have e2 := (hcc (k * 2 + 1) (by omega)).trans (cells_at _ k _ hx).2
      rw [← Nat.add_assoc] at e2
      have HX := Lib.hid hx
      clear hcc hx hlenv
      have HX9 := Lib.hid (show Blk ((wr.alloc (.cells #[.int .i64 x.1, .int .i64 x.2] 38)).alloc (.cells #[.int .i64 x.1] 2)) (wr.heap.size + 1) 2 #[.int .i64 x.1] by simpa using Blk.new (wr.alloc (.cells #[.int .i64 x.1, .int .i64 x.2] 38)) 2 #[.int .i64 x.1])
      have HO3 := Lib.hid (((HOk.out.alloc (.cells #[.int .i64 x.1, .int .i64 x.2] 38)).alloc (.cells #[.int .i64 x.1] 2)))
      go_wp2_with (at_builtin; refine wpList_append_one (news := [.int .i64 x.1]) rfl (.tmp 23) (.tmp 26) 32 rfl 2 j2 _ 1 8 Try.underlying32 ki kz0 kz1 kz2 rfl (by decide) rfl ((HFk.out.1.alloc _).alloc _) rfl HX9.out rfl (by simp [Value.oneCell']) (by have := ids_take_le held line k; unfold maxLen; omega) (by have := ids_take_le held line k; omega) ?_; intro v4 w4 hown4 hg4 hat4)
      go_roundw
      case rel => exact ⟨k + 1, by omega, by go_num, Lib.hid (ids_step HX.out HFk.out.2 hown4 hat4 (by have := HOk.out.size; simp; omega)), Lib.hid (HO3.out.grown hg4 (fun g hg => .inr (HFk.out.2 g hg)))⟩
      case measure => simp [intOf]; omega
    · obtain rfl : k = held.length + line.length := by omega
      have H5 := Lib.hid (H2.out.only HOk.out (by simp))
      have hF5 := HFk.out
      rw [List.take_of_length_le (by simp)] at hF5
      have HF5 := Lib.hid hF5
      have HO5 := Lib.hid (HO2.out.trans HOk.out)
      have HO2s := Lib.hid HO2.out.size
      clear HFk hlenv HK2 hF5 HO2 H2 HAT2 hg2 hk hkl hcell hfz
      go_wp2_with (refine wpList_store_blk rfl 57 (.tmp 34) (.tmp 32) rfl [.slice none 0 0, .int .i64 0, .int .i64 0] rfl rfl H5.out.B (by kernel_rfl) (by simp) (by simp [Value.oneCell']) ?_)
      intro w6 hB6 hO6
      have hB6' : QB w6 q cap bytes (sum held) (.slice none 0 0) 0 0 (.slice a line.length c) (.map (some mb)) := by simpa [QB] using hB6
      have HM6 := Lib.hid (H5.out.M.only hO6 (fun hh => H5.out.M.not_cells H5.out.B (by simpa using hh)))
      have HF6 := Lib.hid (HF5.out.1.only hO6 (fun g hg hh => by simp at hh; subst hh; exact sl_ne H5.out.B HF5.out.1 (by decide) hg))
      have HO6 := Lib.hid hO6
      obtain ⟨hcell, hfz, hlt⟩ := hB6'.facts
      have HB6 := Lib.hid hB6'
      clear hB6 hB6' hO6
      go_wp2_with (refine wpList_clear rfl (.tmp 42) 55 rfl 2 60 Try.underlying55 rfl ((HM6.out.setCell _ _).setCell _ _) ?_)
      intro w7 hM7 ho7
      have HT := Lib.hid (clear_end H5.out HB6.out hM7 ho7 HO6.out HF6.out HF5.out.2)
      clear hM7 ho7
      go_wp2
      go_ret
      exact ⟨_, rfl, ⟨HT.out.1, fun g hg => Nat.le_trans HO2s.out (HF5.out.2 g hg)⟩, .trans (HO5.out.mono (by simp)) (fun g hg => .inl hg) HT.out.2⟩
theorem clear_ok {q : Nat} {cap bytes : Int} {held line : List Item} {S : List Nat} (w : World) (h : QIs w q S cap bytes held line) :
    Calls Try.prog 19 #[.pointer (some ⟨q, 0, none⟩)] w fun e w' => ∃ v, e = .returned v ∧ FreshI w w' v (idsOf (held ++ line)) ∧ QStep w w' q S cap bytes [] [] := by
  obtain ⟨l, lv, f, mb, ks, h, hS⟩ := h
  refine (clear_go w h).mono ?_
  rintro e w' ⟨v, h1, h2, h3⟩
  exact ⟨v, h1, h2, h3.mono hS⟩
end Go.Proofs.Ytlkfkdcdokinpaa
