import Derived.Test.YtlkfkdcdokinpaaQi
namespace Go.Proofs.Ytlkfkdcdokinpaa
open Go.RowKit Go.Fl

/-- May these be? -/
def May (cap bytes : Int) : Prop := 1 ≤ cap ∧ cap ≤ 1024 ∧ 1 ≤ bytes ∧ bytes ≤ 16777216
instance (cap bytes : Int) : Decidable (May cap bytes) := by unfold May; infer_instance

set_option maxHeartbeats 400000 in
theorem new_ok (cap bytes : Int) (w : World) (h : May cap bytes) :
    Calls Try.prog 7 #[.int .i64 cap, .int .i64 bytes] w fun e w' => ∃ q, e = .returned (.tuple #[.pointer (some ⟨q, 0, none⟩), .int .i64 0]) ∧ QStep w w' q [] cap bytes [] [] := by
  obtain ⟨h1, h2, h3, h4⟩ := h
  have hmk : (Instr.makeMap 55 none).run Try.prog w = .ok (.map (some w.heap.size)) (w.alloc (.map #[] 0)) := rfl
  go_enter Try.func7, Try.ntmps7
  go_wp2
  go_ret2
  refine ⟨_, rfl, ?_⟩
  have hR : RingIs ((w.alloc (.map #[] 0)).alloc (.cells #[.int .i64 cap, .int .i64 bytes, .int .i64 0, .slice none 0 0, .int .i64 0, .int .i64 0, .slice none 0 0, .map (some w.heap.size)] 59)) (.slice none 0 0) 0 0 [] := ⟨rfl, .inl ⟨rfl, rfl, rfl⟩⟩
  refine ⟨[w.heap.size, w.heap.size + 1], ⟨.slice none 0 0, .slice none 0 0, 0, w.heap.size, [], ⟨⟨by simp; omega, h2, by simp [sum]; omega, h4, fun x hx => by simp at hx⟩, fun x hx => by simp at hx, h1, h3, by simp, ?_, hR, Sl.nil _ _ _, fun g hg => by simp [Value.ownBlock] at hg, ?_, ?_⟩, ?_⟩, ?_, ?_⟩
  · simpa [QB, sum] using Blk.new (w.alloc (.map #[] 0)) 59 #[.int .i64 cap, .int .i64 bytes, .int .i64 0, .slice none 0 0, .int .i64 0, .int .i64 0, .slice none 0 0, .map (some w.heap.size)]
  · exact (IMap.new w .i64).alloc _
  · simp [idsOf]
  · intro g hg; simp [qblocks, Value.ownBlock] at hg ⊢; omega
  · (repeat (first | with_reducible exact Only.refl _ _ | with_reducible exact Only.refl [] w | with_reducible refine Only.drew ?_ | with_reducible refine Only.drewN ?_ _ | with_reducible refine Only.alloc ?_ _ | ((with_reducible refine Only.setCell ?_ ?_ _); rotate_left; (focus (first | (left; simp; done) | (right; simp; done) | (right; simp; omega) | (right; omega))))))
  · intro g hg; simp at hg; exact .inr (by omega)

set_option maxHeartbeats 400000 in
theorem new_bad (cap bytes : Int) (w : World) (h : ¬ May cap bytes) :
    Calls Try.prog 7 #[.int .i64 cap, .int .i64 bytes] w fun e w' => e = .returned (.tuple #[.pointer none, .int .i64 1]) ∧ Only [] w w' := by
  have hc : cap < 1 ∨ (1 ≤ cap ∧ 1024 < cap) ∨ (1 ≤ cap ∧ cap ≤ 1024 ∧ bytes < 1) ∨ (1 ≤ cap ∧ cap ≤ 1024 ∧ 1 ≤ bytes ∧ 16777216 < bytes) := by unfold May at h; omega
  clear h
  rcases hc with h | ⟨h1, h2⟩ | ⟨h1, h2, h3⟩ | ⟨h1, h2, h3, h4⟩
  all_goals
    go_enter Try.func7, Try.ntmps7
    go_wp2
    go_ret2
    exact ⟨rfl, by (repeat (first | with_reducible exact Only.refl _ _ | with_reducible exact Only.refl [] w | with_reducible refine Only.drew ?_ | with_reducible refine Only.drewN ?_ _ | with_reducible refine Only.alloc ?_ _ | ((with_reducible refine Only.setCell ?_ ?_ _); rotate_left; (focus (first | (left; simp; done) | (right; simp; done) | (right; simp; omega) | (right; omega))))))⟩

theorem there_nil (w : World) : Calls Try.prog 23 #[.pointer none] w fun e w' => e = .returned (.bool false) ∧ w = w' := by
  go_enter Try.func23, Try.ntmps23
  go_wp2
  go_ret
  exact ⟨rfl, rfl⟩

theorem put_nil (id size : Int) (w : World) : Calls Try.prog 8 #[.pointer none, .int .i64 id, .int .i64 size] w fun e w' => e = .returned (.tuple #[.bool false, .int .i64 1]) ∧ Only [] w w' := by
  have HC := Lib.hid (there_nil w)
  go_enter Try.func8, Try.ntmps8
  go_wp2_with fail
  refine HC.out.mono ?_
  rintro e w1 ⟨rfl, rfl⟩
  go_wp2
  go_ret2
  exact ⟨rfl, by (repeat (first | with_reducible exact Only.refl _ _ | with_reducible exact Only.refl [] w | with_reducible refine Only.drew ?_ | with_reducible refine Only.drewN ?_ _ | with_reducible refine Only.alloc ?_ _ | ((with_reducible refine Only.setCell ?_ ?_ _); rotate_left; (focus (first | (left; simp; done) | (right; simp; done) | (right; simp; omega) | (right; omega))))))⟩
theorem take_nil (most byt : Int) (w : World) : Calls Try.prog 9 #[.pointer none, .int .i64 most, .int .i64 byt] w fun e w' => e = .returned (.tuple #[.slice none 0 0, .slice none 0 0]) ∧ Only [] w w' := by
  have HC := Lib.hid (there_nil w)
  go_enter Try.func9, Try.ntmps9
  go_wp2_with fail
  refine HC.out.mono ?_
  rintro e w1 ⟨rfl, rfl⟩
  go_wp2
  go_ret2
  exact ⟨rfl, by (repeat (first | with_reducible exact Only.refl _ _ | with_reducible exact Only.refl [] w | with_reducible refine Only.drew ?_ | with_reducible refine Only.drewN ?_ _ | with_reducible refine Only.alloc ?_ _ | ((with_reducible refine Only.setCell ?_ ?_ _); rotate_left; (focus (first | (left; simp; done) | (right; simp; done) | (right; simp; omega) | (right; omega))))))⟩
theorem leave_nil (id : Int) (w : World) : Calls Try.prog 17 #[.pointer none, .int .i64 id] w fun e w' => e = .returned (.tuple #[.slice none 0 0, .int .i64 1]) ∧ Only [] w w' := by
  have HC := Lib.hid (there_nil (w.alloc (.cells #[.int .i64 id] 2)))
  go_enter Try.func17, Try.ntmps17
  go_wp2_with fail
  refine HC.out.mono ?_
  rintro e w1 ⟨rfl, rfl⟩
  go_wp2
  go_ret2
  exact ⟨rfl, by (repeat (first | with_reducible exact Only.refl _ _ | with_reducible exact Only.refl [] w | with_reducible refine Only.drew ?_ | with_reducible refine Only.drewN ?_ _ | with_reducible refine Only.alloc ?_ _ | ((with_reducible refine Only.setCell ?_ ?_ _); rotate_left; (focus (first | (left; simp; done) | (right; simp; done) | (right; simp; omega) | (right; omega))))))⟩
theorem clear_nil (w : World) : Calls Try.prog 19 #[.pointer none] w fun e w' => e = .returned (.slice none 0 0) ∧ Only [] w w' := by
  have HC := Lib.hid (there_nil w)
  go_enter Try.func19, Try.ntmps19
  go_wp2_with fail
  refine HC.out.mono ?_
  rintro e w1 ⟨rfl, rfl⟩
  go_wp2
  go_ret
  exact ⟨rfl, by (repeat (first | with_reducible exact Only.refl _ _ | with_reducible exact Only.refl [] w | with_reducible refine Only.drew ?_ | with_reducible refine Only.drewN ?_ _ | with_reducible refine Only.alloc ?_ _ | ((with_reducible refine Only.setCell ?_ ?_ _); rotate_left; (focus (first | (left; simp; done) | (right; simp; done) | (right; simp; omega) | (right; omega))))))⟩
theorem held_nil (w : World) : Calls Try.prog 22 #[.pointer none] w fun e w' => e = .returned (.slice none 0 0) ∧ Only [] w w' := by
  have HC := Lib.hid (there_nil w)
  go_enter Try.func22, Try.ntmps22
  go_wp2_with fail
  refine HC.out.mono ?_
  rintro e w1 ⟨rfl, rfl⟩
  go_wp2
  go_ret
  exact ⟨rfl, by (repeat (first | with_reducible exact Only.refl _ _ | with_reducible exact Only.refl [] w | with_reducible refine Only.drew ?_ | with_reducible refine Only.drewN ?_ _ | with_reducible refine Only.alloc ?_ _ | ((with_reducible refine Only.setCell ?_ ?_ _); rotate_left; (focus (first | (left; simp; done) | (right; simp; done) | (right; simp; omega) | (right; omega))))))⟩
theorem line_nil (w : World) : Calls Try.prog 11 #[.pointer none] w fun e w' => e = .returned (.slice none 0 0) ∧ Only [] w w' := by
  have HC := Lib.hid (there_nil w)
  go_enter Try.func11, Try.ntmps11
  go_wp2_with fail
  refine HC.out.mono ?_
  rintro e w1 ⟨rfl, rfl⟩
  go_wp2
  go_ret
  exact ⟨rfl, by (repeat (first | with_reducible exact Only.refl _ _ | with_reducible exact Only.refl [] w | with_reducible refine Only.drew ?_ | with_reducible refine Only.drewN ?_ _ | with_reducible refine Only.alloc ?_ _ | ((with_reducible refine Only.setCell ?_ ?_ _); rotate_left; (focus (first | (left; simp; done) | (right; simp; done) | (right; simp; omega) | (right; omega))))))⟩
def lookV (a b c : Int) : Value := .agg #[.int .i64 a, .int .i64 b, .int .i64 c]
theorem look_nil (w : World) : Calls Try.prog 10 #[.pointer none] w fun e w' => e = .returned (lookV 0 0 0) ∧ Only [] w w' := by
  have HC := Lib.hid (there_nil (w.alloc (.cells #[.int .i64 0, .int .i64 0, .int .i64 0] 40)))
  go_enter Try.func10, Try.ntmps10
  go_wp2_with fail
  refine HC.out.mono ?_
  rintro e w1 ⟨rfl, rfl⟩
  go_wp2
  refine bodyPost_ret (v := lookV 0 0 0) ?_ rfl ⟨rfl, ?_⟩
  · refine results1 rfl (res_blk Try.underlying40 (by kernel_rfl) rfl (cs := [.int .i64 0, .int .i64 0, .int .i64 0]) ?_)
    (repeat' (first | with_reducible exact Blk.new w 40 #[.int .i64 0, .int .i64 0, .int .i64 0] | with_reducible apply Blk.drew | with_reducible apply Blk.drewN | with_reducible apply Blk.alloc | ((with_reducible apply Blk.far); rotate_left; (focus (simp <;> omega))) | with_reducible apply Blk.set' | with_reducible exact SetEq.rfl' | (simp [SetEq]; done) | (simp [SetEq]; omega)))
  · (repeat (first | with_reducible exact Only.refl _ _ | with_reducible exact Only.refl [] w | with_reducible refine Only.drew ?_ | with_reducible refine Only.drewN ?_ _ | with_reducible refine Only.alloc ?_ _ | ((with_reducible refine Only.setCell ?_ ?_ _); rotate_left; (focus (first | (left; simp; done) | (right; simp; done) | (right; simp; omega) | (right; omega))))))
theorem look_ok {q : Nat} {cap bytes : Int} {held line : List Item} {S : List Nat} (w : World) (h : QIs w q S cap bytes held line) :
    Calls Try.prog 10 #[.pointer (some ⟨q, 0, none⟩)] w fun e w' => e = .returned (lookV held.length (sum held) line.length) ∧ Only [] w w' := by
  obtain ⟨l, lv, f, mb, ks, h, _⟩ := h
  have HC := Lib.hid (there_ok (w.alloc (.cells #[.int .i64 0, .int .i64 0, .int .i64 0] 40)) (h.B.alloc _) h.cap0)
  obtain ⟨a, c, hlv, _, _⟩ := h.S.shape
  obtain ⟨hcell, hfz, hlt⟩ := h.B.facts
  subst hlv
  clear h
  go_enter Try.func10, Try.ntmps10
  go_wp2_with fail
  refine HC.out.mono ?_
  rintro e w1 ⟨rfl, rfl⟩
  go_wp2
  refine Lex.wp_region_text (by kernel_rfl) (by kernel_rfl) ?_
  go_wp2
  refine Lex.sq_done (by rfl) ?_
  go_wp2
  refine bodyPost_ret (v := lookV held.length (sum held) line.length) ?_ rfl ⟨rfl, ?_⟩
  · refine results1 rfl (res_blk Try.underlying40 (by kernel_rfl) rfl (cs := [.int .i64 held.length, .int .i64 (sum held), .int .i64 line.length]) ?_)
    exact (Blk.new w 40 _).drew
  · (repeat (first | with_reducible exact Only.refl _ _ | with_reducible exact Only.refl [] w | with_reducible refine Only.drew ?_ | with_reducible refine Only.drewN ?_ _ | with_reducible refine Only.alloc ?_ _ | ((with_reducible refine Only.setCell ?_ ?_ _); rotate_left; (focus (first | (left; simp; done) | (right; simp; done) | (right; simp; omega) | (right; omega))))))
theorem held_ok {q : Nat} {cap bytes : Int} {held line : List Item} {S : List Nat} (w : World) (h : QIs w q S cap bytes held line) :
    Calls Try.prog 22 #[.pointer (some ⟨q, 0, none⟩)] w fun e w' => ∃ v, e = .returned v ∧ Fresh w w' v held ∧ Only [] w w' := by
  obtain ⟨l, lv, f, mb, ks, h, _⟩ := h
  have HC := Lib.hid (there_ok w h.B h.cap0)
  have HA := Lib.hid (all_ok w h.B h.R (by have := h.okh.len; have := h.okh.cap1; omega) (ring_ne h.B h.R))
  obtain ⟨hcell, hfz, hlt⟩ := h.B.facts
  clear h
  go_enter Try.func22, Try.ntmps22
  go_wp2_with fail
  refine HC.out.mono ?_
  rintro e w1 ⟨rfl, rfl⟩
  go_wp2_with fail
  refine HA.out.mono ?_
  rintro e w1 ⟨v, rfl, hF, hO⟩
  have HF := Lib.hid hF
  have HO := Lib.hid hO
  clear hF hO
  go_wp2
  go_ret
  exact ⟨_, rfl, HF.out, HO.out⟩
theorem line_ok {q : Nat} {cap bytes : Int} {held line : List Item} {S : List Nat} (w : World) (h : QIs w q S cap bytes held line) :
    Calls Try.prog 11 #[.pointer (some ⟨q, 0, none⟩)] w fun e w' => ∃ v, e = .returned v ∧ Fresh w w' v line ∧ Only [] w w' := by
  obtain ⟨l, lv, f, mb, ks, h, _⟩ := h
  obtain ⟨j0, hi, hz0, hz1, hz2⟩ := info_parts info38
  have HC := Lib.hid (there_ok w h.B h.cap0)
  have HL := Lib.hid h.lenl
  have HS := Lib.hid h.S
  obtain ⟨hcell, hfz, hlt⟩ := h.B.facts
  clear h
  go_enter Try.func11, Try.ntmps11
  go_wp2_with fail
  refine HC.out.mono ?_
  rintro e w1 ⟨rfl, rfl⟩
  go_wp2_with (at_builtin; refine wpList_append_sls rfl (.const (.slice none 0 0)) (.tmp 9) 31 rfl 38 j0 _ 2 16 Try.underlying31 hi hz0 hz1 hz2 rfl (by decide) rfl (Sl.nil _ _ _) rfl HS.out (cells_one _) (by have := HL.out; unfold maxLen; omega) (by have := HL.out; omega) ?_)
  intro v2 w2 hS2 hg2 hat2
  have HF := Lib.hid (show Fresh w w2 v2 line from ⟨by simpa using hS2, fun g hg => by
    rcases hat2 with hh | hh
    · rw [hh] at hg; simp [Value.ownBlock] at hg
    · rw [hh] at hg; simp at hg; omega⟩)
  have HO := Lib.hid (show Only [] w w2 from (Only.refl [] w).grown hg2 (fun k hk => by simp [Value.ownBlock] at hk))
  clear hS2 hg2 hat2
  go_wp2
  go_ret
  exact ⟨_, rfl, HF.out, HO.out⟩
end Go.Proofs.Ytlkfkdcdokinpaa
