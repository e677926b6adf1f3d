/-
  The document's own queue: its blocks; Put.
-/
import Derived.Test.YtlkfkdcdokinpaaRb
namespace Go.Proofs.Ytlkfkdcdokinpaa
open Go.RowKit Go.Fl

section
variable {w w' w1 w2 : World} {r : Nat} {cap bytes : Int} {held line : List Item} {iv lv : Value} {S T : List Nat} {g : Nat}
theorem mem_r : r ∈ rblocks r iv lv := by simp [rblocks]
theorem mem_iv (h : iv.ownBlock = some g) : g ∈ rblocks r iv lv := by simp [rblocks, h]
theorem mem_rl (h : lv.ownBlock = some g) : g ∈ rblocks r iv lv := by simp [rblocks, h]
theorem mem_r' : g ∈ rblocks r iv lv ↔ g = r ∨ iv.ownBlock = some g ∨ lv.ownBlock = some g := by simp [rblocks]
theorem ROk.only (h : ROk w r cap bytes held line iv lv) (ho : Only T w w') (hT : ∀ g ∈ rblocks r iv lv, g ∉ T) : ROk w' r cap bytes held line iv lv :=
  ⟨h.okh, h.okl, h.cap0, h.byt0, h.lenl, h.B.only ho (hT r mem_r), h.I.only ho (fun _ hg => hT _ (mem_iv hg)), h.L.only ho (fun _ hg => hT _ (mem_rl hg)), h.sep⟩
theorem ROk.is (h : ROk w r cap bytes held line iv lv) : RIs w r (rblocks r iv lv) cap bytes held line := ⟨iv, lv, h, fun _ hg => hg⟩
theorem RIs.only (h : RIs w r S cap bytes held line) (ho : Only T w w') (hT : ∀ g ∈ S, g ∉ T) : RIs w' r S cap bytes held line := by
  obtain ⟨iv, lv, h1, h2⟩ := h
  exact ⟨iv, lv, h1.only ho fun g hg => hT g (h2 g hg), h2⟩
theorem RIs.same (h : RIs w r S cap bytes held line) (ho : Only [] w w') : RStep w w' r S cap bytes held line :=
  ⟨S, h.only ho (by simp), ho.mono (by simp), fun g hg => .inl hg⟩
theorem RStep.mono (h : RStep w w' r S cap bytes held line) (hS : ∀ g ∈ S, g ∈ T) : RStep w w' r T cap bytes held line := by
  obtain ⟨S', h1, h2, h3⟩ := h
  exact ⟨S', h1, h2.mono hS, fun g hg => (h3 g hg).imp (hS g) id⟩
theorem RStep.trans (ho : Only S w w1) (hT : ∀ g ∈ T, g ∈ S ∨ w.heap.size ≤ g) (h : RStep w1 w2 r T cap bytes held line) : RStep w w2 r S cap bytes held line := by
  obtain ⟨S', h1, h2, h3⟩ := h
  refine ⟨S', h1, ho.trans' h2 hT, fun g hg => ?_⟩
  rcases h3 g hg with h | h
  · exact hT g h
  · exact .inr (Nat.le_trans ho.size h)
theorem RStep.only (h : RStep w w1 r S cap bytes held line) (ho : Only [] w1 w2) : RStep w w2 r S cap bytes held line := by
  obtain ⟨S', h1, h2, h3⟩ := h
  exact ⟨S', h1.only ho (by simp), h2.trans' ho (by simp), h3⟩
theorem blk_sl_ne {t e s m : Nat} {cs : Array Value} {v : Value} {xs : List Value} (hB : Blk w r t cs) (hS : Sl w e s v m xs) (he : e ≠ t) : v.ownBlock ≠ some r := by
  rcases hS.2 with ⟨rfl, _⟩ | ⟨g, off, c, cur, rfl, hh, _⟩
  · simp [Value.ownBlock]
  · have := Blk.ne_ (t := e) hh hB he
    simp [Value.ownBlock, this]
theorem ROk.ri (h : ROk w r cap bytes held line iv lv) : iv.ownBlock ≠ some r := blk_sl_ne h.B h.I (by decide)
theorem ROk.rl (h : ROk w r cap bytes held line iv lv) : lv.ownBlock ≠ some r := blk_sl_ne h.B h.L (by decide)
end

theorem r_in {w w4 : World} {r : Nat} {cap bytes : Int} {held line : List Item} {iv lv v4 : Value} {x : Item} (h : ROk w r cap bytes held line iv lv) (hx : 0 ≤ x.2 ∧ x.2 ≤ 16777216) (hr : hasRoom cap bytes held x.2 = true)
    (hS : Sl w4 38 2 v4 (held.length + 1) (cells held ++ [.int .i64 x.1, .int .i64 x.2])) (hO : Only iv.ownBlock.toList w w4) (hN : v4.ownBlock = iv.ownBlock ∨ ∀ g, v4.ownBlock = some g → w.heap.size ≤ g) :
    ROk (w4.setCell ⟨r, 2, none⟩ v4) r cap bytes (held ++ [x]) line v4 lv := by
  have hB4 := h.B.only hO (not_own h.ri)
  have hL4 := h.L.only hO (fun g hg => not_own (fun hh => h.sep g hh hg))
  have hv4 := blk_sl_ne hB4 hS (by decide)
  refine ⟨h.okh.more hx hr, h.okl, h.cap0, h.byt0, h.lenl, ?_, ?_, hL4.far (p := ⟨r, 2, none⟩) h.rl v4, ?_⟩
  · simpa [RB] using hB4.set_ 2 v4
  · rw [cells_append, List.length_append]
    exact hS.far (p := ⟨r, 2, none⟩) hv4 v4
  · intro g hg hg'
    rcases hN with h1 | h1
    · exact h.sep g (h1 ▸ hg) hg'
    · have := h1 g hg; have := h.L.lt g hg'; omega
theorem r_line {w w4 : World} {r : Nat} {cap bytes : Int} {held line : List Item} {iv lv v4 : Value} {line' : List Item} (h : ROk w r cap bytes held line iv lv) (hx : Sized line') (hll : line'.length ≤ 1024)
    (hS : Sl w4 38 2 v4 line'.length (cells line')) (hO : Only lv.ownBlock.toList w w4) (hN : v4.ownBlock = lv.ownBlock ∨ ∀ g, v4.ownBlock = some g → w.heap.size ≤ g) :
    ROk (w4.setCell ⟨r, 3, none⟩ v4) r cap bytes held line' iv v4 := by
  have hB4 := h.B.only hO (not_own h.rl)
  have hI4 := h.I.only hO (fun g hg => not_own (fun hh => h.sep g hg hh))
  have hv4 := blk_sl_ne hB4 hS (by decide)
  refine ⟨h.okh, hx, h.cap0, h.byt0, hll, ?_, hI4.far (p := ⟨r, 3, none⟩) h.ri v4, ?_, ?_⟩
  · simpa [RB] using hB4.set_ 3 v4
  · exact hS.far (p := ⟨r, 3, none⟩) hv4 v4
  · intro g hg hg'
    rcases hN with h1 | h1
    · exact h.sep g hg (h1 ▸ hg')
    · have := h1 g hg'; have := h.I.lt g hg; omega
/-- The step of one field that was set to a slice of its own. -/
theorem r_step {w w4 : World} {r : Nat} {cap bytes : Int} {held line held' line' : List Item} {iv lv iv' lv' ov v4 : Value} {k : Nat} (h : ROk w r cap bytes held line iv lv) (h' : ROk (w4.setCell ⟨r, k, none⟩ v4) r cap bytes held' line' iv' lv')
    (hO : Only ov.ownBlock.toList w w4) (ho : ov = iv ∨ ov = lv) (hi : ∀ g, iv'.ownBlock = some g → iv.ownBlock = some g ∨ w.heap.size ≤ g) (hl : ∀ g, lv'.ownBlock = some g → lv.ownBlock = some g ∨ w.heap.size ≤ g) :
    RStep w (w4.setCell ⟨r, k, none⟩ v4) r (rblocks r iv lv) cap bytes held' line' := by
  refine ⟨rblocks r iv' lv', h'.is, (hO.mono ?_).setCell (p := ⟨r, k, none⟩) (.inl mem_r) _, fun g hg => ?_⟩
  · intro g hg
    rcases ho with rfl | rfl
    · exact mem_iv (by simpa using hg)
    · exact mem_rl (by simpa using hg)
  · rw [mem_r'] at hg ⊢
    rcases hg with hg | hg | hg
    · exact .inl (.inl hg)
    · rcases hi g hg with h1 | h1
      · exact .inl (.inr (.inl h1))
      · exact .inr h1
    · rcases hl g hg with h1 | h1
      · exact .inl (.inr (.inr h1))
      · exact .inr h1

set_option maxRecDepth 100000 in
set_option maxHeartbeats 3200000 in
theorem rput_err {r : Nat} {cap bytes : Int} {held line : List Item} {iv lv : Value} (id size : Int) (w : World) (h : ROk w r cap bytes held line iv lv)
    (hc : size < 0 ∨ (¬ size < 0 ∧ bytes < size) ∨ (¬ size < 0 ∧ ¬ bytes < size ∧ (idsOf held).contains id = true) ∨ (¬ size < 0 ∧ ¬ bytes < size ∧ (idsOf held).contains id = false ∧ (idsOf line).contains id = true) ∨ (¬ size < 0 ∧ ¬ bytes < size ∧ (idsOf held).contains id = false ∧ (idsOf line).contains id = false ∧ line.length = 1024)) :
    Calls Try.prog 13 #[.pointer (some ⟨r, 0, none⟩), .int .i64 id, .int .i64 size] w fun e w' => e = .returned (bi (putM cap bytes held line id size).1) ∧ Only [] w w' := by
  have hp : ∃ e, (putM cap bytes held line id size).1 = (false, e) ∧ ((size < 0 ∧ e = 1) ∨ (¬ size < 0 ∧ bytes < size ∧ e = 3) ∨ (¬ size < 0 ∧ ¬ bytes < size ∧ (idsOf held).contains id = true ∧ e = 7) ∨ (¬ size < 0 ∧ ¬ bytes < size ∧ (idsOf held).contains id = false ∧ (idsOf line).contains id = true ∧ e = 7) ∨ (¬ size < 0 ∧ ¬ bytes < size ∧ (idsOf held).contains id = false ∧ (idsOf line).contains id = false ∧ line.length = 1024 ∧ e = 9)) := by
    have hca : (idsOf (held ++ line)).contains id = ((idsOf held).contains id || (idsOf line).contains id) := by
      rw [idsOf_append, Bool.eq_iff_iff]; simp
    unfold putM
    rw [hca]
    rcases hc with h1 | ⟨h1, h2⟩ | ⟨h1, h2, h3⟩ | ⟨h1, h2, h3, h4⟩ | ⟨h1, h2, h3, h4, h5⟩
    · exact ⟨1, by rw [if_pos h1], .inl ⟨h1, rfl⟩⟩
    · exact ⟨3, by rw [if_neg h1, if_pos h2], .inr (.inl ⟨h1, h2, rfl⟩)⟩
    · exact ⟨7, by rw [if_neg h1, if_neg h2, h3, Bool.true_or, if_pos rfl], .inr (.inr (.inl ⟨h1, h2, h3, rfl⟩))⟩
    · exact ⟨7, by rw [if_neg h1, if_neg h2, h4, Bool.or_true, if_pos rfl], .inr (.inr (.inr (.inl ⟨h1, h2, h3, h4, rfl⟩)))⟩
    · exact ⟨9, by rw [if_neg h1, if_neg h2, h3, h4, if_neg (by simp), if_pos (by omega)], .inr (.inr (.inr (.inr ⟨h1, h2, h3, h4, h5, rfl⟩)))⟩
  obtain ⟨e, hr, hcs⟩ := hp
  rw [hr]
  have hl1 := h.okh.len
  have hl4 := h.okh.cap1
  have HC := Lib.hid (has_ok id w h.I (by omega))
  have HC2 := Lib.hid (has_ok id w h.L (by have := h.lenl; omega))
  obtain ⟨a, c, hiv, _, _⟩ := h.I.shape
  obtain ⟨a2, c2, hlv, _, _⟩ := h.L.shape
  obtain ⟨hcell, hfz, hlt⟩ := h.B.facts
  subst hiv
  subst hlv
  clear h hr hc hl1 hl4
  rcases hcs with ⟨h1, rfl⟩ | ⟨h1, h2, rfl⟩ | ⟨h1, h2, h3, rfl⟩ | ⟨h1, h2, h3, h4, rfl⟩ | ⟨h1, h2, h3, h4, h5, rfl⟩
  · clear HC HC2
    go_enter Try.func13, Try.ntmps13
    go_wp2_with fail
    go_ret2
    exact ⟨rfl, by (repeat (first | with_reducible exact Only.refl _ _ | with_reducible exact Only.refl [] w | with_reducible refine Only.drew ?_ | with_reducible refine Only.drewN ?_ _ | with_reducible refine Only.alloc ?_ _ | ((with_reducible refine Only.setCell ?_ ?_ _); rotate_left; (focus (first | (left; simp; done) | (right; simp; done) | (right; simp; omega) | (right; omega))))))⟩
  · clear HC HC2
    go_enter Try.func13, Try.ntmps13
    go_wp2_with fail
    go_ret2
    exact ⟨rfl, by (repeat (first | with_reducible exact Only.refl _ _ | with_reducible exact Only.refl [] w | with_reducible refine Only.drew ?_ | with_reducible refine Only.drewN ?_ _ | with_reducible refine Only.alloc ?_ _ | ((with_reducible refine Only.setCell ?_ ?_ _); rotate_left; (focus (first | (left; simp; done) | (right; simp; done) | (right; simp; omega) | (right; omega))))))⟩
  · rw [h3] at HC
    clear h3 HC2
    go_enter Try.func13, Try.ntmps13
    go_wp2_with fail
    refine HC.out.mono ?_
    clear HC
    rintro e w1 ⟨rfl, rfl⟩
    go_wp2_with fail
    go_ret2
    exact ⟨rfl, by (repeat (first | with_reducible exact Only.refl _ _ | with_reducible exact Only.refl [] w1 | with_reducible refine Only.drew ?_ | with_reducible refine Only.drewN ?_ _ | with_reducible refine Only.alloc ?_ _ | ((with_reducible refine Only.setCell ?_ ?_ _); rotate_left; (focus (first | (left; simp; done) | (right; simp; done) | (right; simp; omega) | (right; omega))))))⟩
  · rw [h3] at HC
    rw [h4] at HC2
    clear h3 h4
    go_enter Try.func13, Try.ntmps13
    go_wp2_with fail
    refine HC.out.mono ?_
    clear HC
    rintro e w1 ⟨rfl, rfl⟩
    go_wp2_with fail
    refine HC2.out.mono ?_
    clear HC2
    rintro e w1 ⟨rfl, rfl⟩
    go_wp2_with fail
    go_ret2
    exact ⟨rfl, by (repeat (first | with_reducible exact Only.refl _ _ | with_reducible exact Only.refl [] w1 | with_reducible refine Only.drew ?_ | with_reducible refine Only.drewN ?_ _ | with_reducible refine Only.alloc ?_ _ | ((with_reducible refine Only.setCell ?_ ?_ _); rotate_left; (focus (first | (left; simp; done) | (right; simp; done) | (right; simp; omega) | (right; omega))))))⟩
  · rw [h3] at HC
    rw [h4] at HC2
    have H5 := Lib.hid h5
    clear h3 h4 h5
    go_enter Try.func13, Try.ntmps13
    go_wp2_with fail
    refine HC.out.mono ?_
    clear HC
    rintro e w1 ⟨rfl, rfl⟩
    go_wp2_with fail
    refine HC2.out.mono ?_
    clear HC2
    rintro e w1 ⟨rfl, rfl⟩
    have h6 : ((line.length : Nat) : Int) = 1024 := by have := H5.out; omega
    go_wp2_with fail
    go_ret2
    exact ⟨rfl, by (repeat (first | with_reducible exact Only.refl _ _ | with_reducible exact Only.refl [] w1 | with_reducible refine Only.drew ?_ | with_reducible refine Only.drewN ?_ _ | with_reducible refine Only.alloc ?_ _ | ((with_reducible refine Only.setCell ?_ ?_ _); rotate_left; (focus (first | (left; simp; done) | (right; simp; done) | (right; simp; omega) | (right; omega))))))⟩
end Go.Proofs.Ytlkfkdcdokinpaa
