/-
  The document's own queue: Put.
-/
import Derived.Test.YtlkfkdcdokinpaaRc
namespace Go.Proofs.Ytlkfkdcdokinpaa
open Go.RowKit Go.Fl


set_option maxRecDepth 100000 in
set_option maxHeartbeats 3200000 in
theorem rput_go {r : Nat} {cap bytes : Int} {held line : List Item} {iv lv : Value} (id size : Int) (w : World) (h : ROk w r cap bytes held line iv lv)
    (h1 : ¬ size < 0) (h2 : ¬ bytes < size) (h3 : (idsOf held).contains id = false) (h4 : (idsOf line).contains id = false) (h5 : ¬ line.length = 1024) :
    Calls Try.prog 13 #[.pointer (some ⟨r, 0, none⟩), .int .i64 id, .int .i64 size] w fun e w' => e = .returned (bi (putM cap bytes held line id size).1) ∧
      RStep w w' r (rblocks r iv lv) cap bytes (putM cap bytes held line id size).2.1 (putM cap bytes held line id size).2.2 := by
  obtain ⟨j0, hi, hz0, hz1, hz2⟩ := info_parts info38
  have hl1 := h.okh.len
  have hl4 := h.okh.cap1
  have hp : putM cap bytes held line id size = if line.isEmpty && hasRoom cap bytes held size then ((true, 0), held ++ [(id, size)], line) else ((false, 0), held, line ++ [(id, size)]) := by
    have hca : (idsOf (held ++ line)).contains id = ((idsOf held).contains id || (idsOf line).contains id) := by
      rw [idsOf_append, Bool.eq_iff_iff]; simp
    unfold putM
    rw [if_neg h1, if_neg h2, hca, h3, h4, if_neg (by simp), if_neg (by have := h.lenl; omega)]
  rw [hp]
  clear hp
  have HC := Lib.hid (has_ok id w h.I (by omega))
  have HC2 := Lib.hid (has_ok id w h.L (by have := h.lenl; omega))
  have HR := Lib.hid (rroom_ok size w h (by omega) (by have := h.okh.byt1; omega))
  rw [h3] at HC
  rw [h4] at HC2
  obtain ⟨a, c, hiv, _, _⟩ := h.I.shape
  obtain ⟨a2, c2, hlv, _, _⟩ := h.L.shape
  obtain ⟨hcell, hfz, hlt⟩ := h.B.facts
  have H := Lib.hid h
  have h6 : ((line.length : Nat) : Int) ≠ 1024 := by omega
  have HL4 := Lib.hid (show line.length < 1024 by have := h.lenl; omega)
  clear h h3 h4 h5
  subst hiv
  subst hlv
  go_enter Try.func13, Try.ntmps13
  go_wp2_with fail
  refine HC.out.mono ?_
  clear HC
  rintro e w1 ⟨rfl, rfl⟩
  go_wp2_with fail
  refine HC2.out.mono ?_
  clear HC2
  rintro e w1 ⟨rfl, rfl⟩
  cases line with
  | nil =>
    simp only [List.length_nil] at *
    cases hr : hasRoom cap bytes held size with
    | true =>
      rw [hr] at HR
      have HH := Lib.hid hr
      go_wp2_with fail
      refine HR.out.mono ?_
      clear HR
      rintro e w2 ⟨rfl, m, rfl⟩
      have HO := Lib.hid ((Only.refl [] w1).drewN m)
      have HX := Lib.hid (H.out.only HO.out (by simp))
      obtain ⟨hcell, hfz, hlt⟩ := HX.out.B.facts
      go_wp2_with (at_builtin; refine wpList_append_one (news := [.int .i64 id, .int .i64 size]) rfl (.tmp 55) (.tmp 59) 31 rfl 38 j0 _ 2 16 Try.underlying31 hi hz0 hz1 hz2 rfl (by decide) rfl (HX.out.I.alloc _) rfl (Blk.new _ _ _) rfl (by simp [Value.oneCell']) (by unfold maxLen; omega) (by omega) ?_)
      intro v4 w4 hS4 hg4 hat4
      obtain ⟨a4, c4, hv4, _, _⟩ := hS4.shape
      have ho4 : Only (Value.slice a held.length c).ownBlock.toList (w1.drewN m) w4 := ((Only.refl _ _).alloc _).grown hg4 (fun k hk => .inl (by simp [hk]))
      have hB4 := HX.out.B.only ho4 (not_own HX.out.ri)
      obtain ⟨hcell, hfz, hlt4⟩ := hB4.facts
      have hn4 : ∀ g, v4.ownBlock = some g → (Value.slice a held.length c).ownBlock = some g ∨ (w1.drewN m).heap.size ≤ g := fun g hg => by
        rcases hat4 with h | h
        · exact .inl (h ▸ hg)
        · exact .inr (by rw [h] at hg; injection hg with hg; subst hg; simp)
      have hR4 := r_in (x := (id, size)) HX.out ⟨by omega, by have := HX.out.okh.byt1; omega⟩ HH.out hS4 ho4 (hat4.imp (fun x => x) (fun h g hg => by rw [h] at hg; injection hg with hg; subst hg; simp))
      have HS4 := Lib.hid (r_step HX.out hR4 ho4 (.inl rfl) hn4 (fun g hg => .inl hg))
      clear hS4 hg4 hat4 ho4 hB4 hR4 hn4
      subst hv4
      go_wp2
      go_ret2
      exact ⟨rfl, .trans (HO.out.mono (by simp)) (fun g hg => .inl hg) HS4.out⟩
    | false =>
      rw [hr] at HR
      go_wp2_with fail
      refine HR.out.mono ?_
      clear HR
      rintro e w2 ⟨rfl, m, rfl⟩
      have HO := Lib.hid ((Only.refl [] w1).drewN m)
      have HX := Lib.hid (H.out.only HO.out (by simp))
      obtain ⟨hcell, hfz, hlt⟩ := HX.out.B.facts
      go_wp2_with (at_builtin; refine wpList_append_one (news := [.int .i64 id, .int .i64 size]) rfl (.tmp 67) (.tmp 71) 31 rfl 38 j0 _ 2 16 Try.underlying31 hi hz0 hz1 hz2 rfl (by decide) rfl (HX.out.L.alloc _) rfl (Blk.new _ _ _) rfl (by simp [Value.oneCell']) (by have := HX.out.lenl; unfold maxLen; omega) (by have := HX.out.lenl; omega) ?_)
      intro v4 w4 hS4 hg4 hat4
      obtain ⟨a4, c4, hv4, _, _⟩ := hS4.shape
      have ho4 : Only (Value.slice a2 ([] : List Item).length c2).ownBlock.toList (w1.drewN m) w4 := ((Only.refl _ _).alloc _).grown hg4 (fun k hk => .inl (by simp [hk]))
      have hB4 := HX.out.B.only ho4 (not_own HX.out.rl)
      obtain ⟨hcell, hfz, hlt4⟩ := hB4.facts
      have hn4 : ∀ g, v4.ownBlock = some g → (Value.slice a2 ([] : List Item).length c2).ownBlock = some g ∨ (w1.drewN m).heap.size ≤ g := fun g hg => by
        rcases hat4 with h | h
        · exact .inl (h ▸ hg)
        · exact .inr (by rw [h] at hg; injection hg with hg; subst hg; simp)
      have hR4 := r_line (line' := ([] : List Item) ++ [(id, size)]) HX.out (fun y hy => by
        rcases List.mem_append.1 hy with hy | hy
        · exact HX.out.okl y hy
        · simp at hy; subst hy; exact ⟨by omega, by have := HX.out.okh.byt1; omega⟩) (by have := HL4.out; simp at this ⊢ <;> omega) (by rw [cells_append, List.length_append]; exact hS4) ho4 (hat4.imp (fun x => x) (fun h g hg => by rw [h] at hg; injection hg with hg; subst hg; simp))
      have HS4 := Lib.hid (r_step HX.out hR4 ho4 (.inr rfl) (fun g hg => .inl hg) hn4)
      clear hS4 hg4 hat4 ho4 hB4 hR4 hn4
      subst hv4
      go_wp2
      all_goals go_ret2
      all_goals exact ⟨rfl, .trans (HO.out.mono (by simp)) (fun g hg => .inl hg) HS4.out⟩
  | cons y line =>
    clear HR
    have HO := Lib.hid (Only.refl [] w1)
    have HX := H
    simp only [List.length_cons] at *
    have hpo : ((line.length + 1 : Nat) : Int) ≠ 0 := by omega
    obtain ⟨hcell, hfz, hlt⟩ := HX.out.B.facts
    go_wp2_with (at_builtin; refine wpList_append_one (news := [.int .i64 id, .int .i64 size]) rfl (.tmp 67) (.tmp 71) 31 rfl 38 j0 _ 2 16 Try.underlying31 hi hz0 hz1 hz2 rfl (by decide) rfl (HX.out.L.alloc _) rfl (Blk.new _ _ _) rfl (by simp [Value.oneCell']) (by have := HX.out.lenl; unfold maxLen; omega) (by have := HX.out.lenl; omega) ?_)
    intro v4 w4 hS4 hg4 hat4
    obtain ⟨a4, c4, hv4, _, _⟩ := hS4.shape
    have ho4 : Only (Value.slice a2 (y :: line).length c2).ownBlock.toList w1 w4 := ((Only.refl _ _).alloc _).grown hg4 (fun k hk => .inl (by simp [hk]))
    have hB4 := HX.out.B.only ho4 (not_own HX.out.rl)
    obtain ⟨hcell, hfz, hlt4⟩ := hB4.facts
    have hn4 : ∀ g, v4.ownBlock = some g → (Value.slice a2 (y :: line).length c2).ownBlock = some g ∨ w1.heap.size ≤ g := fun g hg => by
      rcases hat4 with h | h
      · exact .inl (h ▸ hg)
      · exact .inr (by rw [h] at hg; injection hg with hg; subst hg; simp)
    have hR4 := r_line (line' := (y :: line) ++ [(id, size)]) HX.out (fun y hy => by
      rcases List.mem_append.1 hy with hy | hy
      · exact HX.out.okl y hy
      · simp at hy; subst hy; exact ⟨by omega, by have := HX.out.okh.byt1; omega⟩) (by have := HL4.out; simp at this ⊢ <;> omega) (by rw [cells_append, List.length_append]; exact hS4) ho4 (hat4.imp (fun x => x) (fun h g hg => by rw [h] at hg; injection hg with hg; subst hg; simp))
    have HS4 := Lib.hid (r_step HX.out hR4 ho4 (.inr rfl) (fun g hg => .inl hg) hn4)
    clear hS4 hg4 hat4 ho4 hB4 hR4 hn4
    subst hv4
    go_wp2
    all_goals go_ret2
    all_goals exact ⟨rfl, .trans (HO.out.mono (by simp)) (fun g hg => .inl hg) HS4.out⟩
end Go.Proofs.Ytlkfkdcdokinpaa
