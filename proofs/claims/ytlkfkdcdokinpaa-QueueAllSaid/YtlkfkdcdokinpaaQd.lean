import Derived.Test.YtlkfkdcdokinpaaQc
namespace Go.Proofs.Ytlkfkdcdokinpaa
open Go.RowKit Go.Fl

theorem ring_ne {w : World} {q : Nat} {cap bytes used : Int} {line ids l : Value} {f n : Nat} {held : List Item} (hB : QB w q cap bytes used l f n line ids) (hR : RingIs w l f n held) : l.ownBlock ≠ some q := by
  rcases hR.2 with ⟨rfl, _⟩ | ⟨r, L, cur, rfl, hb, _⟩
  · simp [Value.ownBlock]
  · have := hb.ne_ hB (by decide)
    simp [Value.ownBlock, this]
theorem sl_ne {w : World} {q : Nat} {cap bytes used : Int} {line ids l : Value} {f n : Int} {e s m : Nat} {v : Value} {xs : List Value} (hB : QB w q cap bytes used l f n line ids) (hS : Sl w e s v m xs) (he : e ≠ 59) : v.ownBlock ≠ some q := by
  rcases hS.2 with ⟨rfl, _⟩ | ⟨g, off, c, cur, rfl, hh, _⟩
  · simp [Value.ownBlock]
  · have := Blk.ne_ (t := e) hh hB he
    simp [Value.ownBlock, this]

/-- What holds of a ring behind a step: its block is the old one or a new one. -/
def Renewed (w : World) (l l' : Value) : Prop := l'.ownBlock = l.ownBlock ∨ ∀ g, l'.ownBlock = some g → w.heap.size ≤ g

theorem push_ok {q : Nat} {cap bytes used : Int} {line ids l : Value} {f n : Nat} {held : List Item} (x : Item) (w : World) (hB : QB w q cap bytes used l f n line ids) (hR : RingIs w l f n held) (hn : n ≤ 1100) :
    Calls Try.prog 40 #[.pointer (some ⟨q, 3, none⟩), .agg #[.int .i64 x.1, .int .i64 x.2]] w fun e w' => e = .returned (.tuple #[]) ∧
      ∃ l' f', QB w' q cap bytes used l' (f' : Nat) (n + 1 : Nat) line ids ∧ RingIs w' l' f' (n + 1) (held ++ [x]) ∧ Only (q :: l.ownBlock.toList) w w' ∧ Renewed w l l' := by
  have hq := ring_ne hB hR
  have hlen := hR.1
  have grow : ∀ A, l = .slice A n n → Calls Try.prog 40 #[.pointer (some ⟨q, 3, none⟩), .agg #[.int .i64 x.1, .int .i64 x.2]] w fun e w' => e = .returned (.tuple #[]) ∧
      ∃ l' f', QB w' q cap bytes used l' (f' : Nat) (n + 1 : Nat) line ids ∧ RingIs w' l' f' (n + 1) (held ++ [x]) ∧ Only (q :: l.ownBlock.toList) w w' ∧ Renewed w l l' := fun A hl => by
    subst hl
    refine (push_grow w hB hR hn hq).mono ?_
    rintro e w' ⟨rfl, r, hr, h1, h2, h3⟩
    exact ⟨rfl, _, _, h1, h2, h3.mono (by simp), .inr fun g hg => by simp [Value.ownBlock] at hg; omega⟩
  rcases hR.2 with ⟨hl, h0, hf⟩ | ⟨r, L, cur, hl, hb, hsz, hf, hnl, hL, hc⟩
  · exact grow none (by rw [hl, h0])
  · by_cases hnL : n = L
    · exact grow (some ⟨r, 0, none⟩) (by rw [hl, hnL])
    · subst hl
      have hrq : r ≠ q := fun h => hq (by simp [Value.ownBlock, h])
      refine (push_room w hB hb hsz hf (by omega) hL hrq).mono ?_
      rintro e w' ⟨rfl, h1, h2, h3⟩
      refine ⟨rfl, _, _, h1, ⟨by simp [hlen], .inr ⟨r, L, _, rfl, h2, by simp [hsz], hf, by omega, hL, fun i y hy => ?_⟩⟩, h3.mono (by simp [Value.ownBlock]), .inl rfl⟩
      have hi : i < n + 1 := by have := (List.getElem?_eq_some_iff.1 hy).1; simp [hlen] at this; omega
      have hml : (f + n) % L < L := Nat.mod_lt _ (by omega)
      by_cases hin : i = n
      · subst hin
        rw [List.getElem?_append_right (by omega), hlen, Nat.sub_self] at hy
        simp at hy
        subst hy
        refine ⟨?_, ?_⟩
        · rw [Array.getElem?_setIfInBounds_ne (by omega), Array.getElem?_setIfInBounds_self_of_lt (by omega)]
        · rw [Array.getElem?_setIfInBounds_self_of_lt (by simp; omega)]
      · rw [List.getElem?_append_left (by omega)] at hy
        have hne : (f + i) % L ≠ (f + n) % L := by
          intro he
          by_cases h1 : f + i < L
          · by_cases h2 : f + n < L
            · rw [Nat.mod_eq_of_lt h1, Nat.mod_eq_of_lt h2] at he; omega
            · rw [Nat.mod_eq_of_lt h1, Nat.mod_eq_sub_mod (by omega), Nat.mod_eq_of_lt (by omega)] at he; omega
          · rw [Nat.mod_eq_sub_mod (by omega), Nat.mod_eq_of_lt (by omega), Nat.mod_eq_sub_mod (show f + n ≥ L by omega), Nat.mod_eq_of_lt (by omega)] at he; omega
        have := hc i y hy
        rw [Array.getElem?_setIfInBounds_ne (by omega), Array.getElem?_setIfInBounds_ne (by omega), Array.getElem?_setIfInBounds_ne (by omega), Array.getElem?_setIfInBounds_ne (by omega)]
        exact this

set_option maxHeartbeats 400000 in
theorem room_ok {q : Nat} {cap bytes used n : Int} {line ids l : Value} {f : Int} (x : Item) (w : World) (hB : QB w q cap bytes used l f n line ids) (hu : 0 ≤ used) (hub : used ≤ bytes) (hb : bytes ≤ 16777216) :
    Calls Try.prog 24 #[.pointer (some ⟨q, 0, none⟩), .agg #[.int .i64 x.1, .int .i64 x.2]] w fun e w' => e = .returned (.bool (decide (n < cap) && decide (x.2 ≤ bytes - used))) ∧ Only [] w w' := by
  obtain ⟨hc, hfz, hlt⟩ := hB.facts
  clear hB
  by_cases hn : n < cap
  · go_enter Try.func24, Try.ntmps24
    go_wp2
    refine Lex.wp_region_text (by kernel_rfl) (by kernel_rfl) ?_
    go_wp2
    refine Lex.sq_done (by rfl) ?_
    go_wp2
    go_ret
    exact ⟨by simp [hn], ((Only.refl _ _).alloc _).drew⟩
  · have hd : decide (n < cap) = false := by simpa using hn
    go_enter Try.func24, Try.ntmps24
    go_wp2
    refine Lex.wp_region_text (by kernel_rfl) (by kernel_rfl) ?_
    go_wp2
    refine Lex.sq_done (by rfl) ?_
    go_wp2
    go_ret
    exact ⟨by simp only [hd, Bool.false_and]; rfl, ((Only.refl _ _).alloc _).drew⟩

set_option maxHeartbeats 400000 in
theorem hold_ok {q : Nat} {cap bytes used : Int} {line ids l : Value} {f n : Nat} {held : List Item} (x : Item) (w : World) (hB : QB w q cap bytes used l f n line ids) (hR : RingIs w l f n held) (hn : n ≤ 1100) (hu : 0 ≤ used) (hub : used ≤ 16777216) (hx : 0 ≤ x.2) (hxb : x.2 ≤ 16777216) :
    Calls Try.prog 25 #[.pointer (some ⟨q, 0, none⟩), .agg #[.int .i64 x.1, .int .i64 x.2]] w fun e w' => e = .returned (.tuple #[]) ∧
      ∃ l' f', QB w' q cap bytes (used + x.2) l' (f' : Nat) (n + 1 : Nat) line ids ∧ RingIs w' l' f' (n + 1) (held ++ [x]) ∧ Only (q :: l.ownBlock.toList) w w' ∧ Renewed w l l' := by
  have hq := ring_ne hB hR
  obtain ⟨hc, hfz, hlt⟩ := hB.facts
  have hRlt := Lib.hid hR.lt
  have HC := Lib.hid (push_ok x (w.alloc (.cells #[.int .i64 x.1, .int .i64 x.2] 38)).drew ((hB.alloc _).drew) (hR.keep fun g hg => Below.heap_alloc w _ g (hR.lt g hg)) hn)
  have HQ := Lib.hid hq
  clear hB hR hq
  go_enter Try.func25, Try.ntmps25
  go_wp2
  refine Lex.wp_region_text (by kernel_rfl) (by kernel_rfl) ?_
  go_wp2_with fail
  refine HC.out.mono ?_
  rintro e w1 ⟨rfl, l', f', hB1, hR1, hO1, hN1⟩
  have hs1 : w.heap.size + 1 ≤ w1.heap.size := by have := hO1.size; simp at this; omega
  have hX1 : Blk w1 w.heap.size 38 #[.int .i64 x.1, .int .i64 x.2] := ((Blk.new w 38 _).drew).only hO1 (by
    intro h
    rcases List.mem_cons.1 h with h | h
    · omega
    · have := hRlt.out w.heap.size (by simpa using h); omega)
  obtain ⟨hc, hfz, hlt1⟩ := hB1.facts
  obtain ⟨xc, xfz, xlt⟩ := hX1.facts
  have HB1 := Lib.hid hB1
  have HR1 := Lib.hid hR1
  have HN1 := Lib.hid hN1
  have HQ1 := Lib.hid (ring_ne hB1 hR1)
  have HO1 := Lib.hid ((((Only.refl (q :: l.ownBlock.toList) w).alloc _).drew).trans' hO1 (fun i hi => .inl hi))
  clear hB1 hR1 hO1 hX1 hN1
  go_wp2
  refine Lex.sq_done (by rfl) ?_
  go_wp2
  refine Lex.wp_region_text (by kernel_rfl) (by kernel_rfl) ?_
  go_wp2
  refine Lex.sq_done (by rfl) ?_
  go_wp2
  go_end0
  refine ⟨rfl, l', f', ?_, HR1.out.keep fun g hg => ?_, ?_, ?_⟩
  · (repeat' (first | with_reducible exact HB1.out | with_reducible apply Blk.drew | with_reducible apply Blk.drewN | with_reducible apply Blk.alloc | ((with_reducible apply Blk.far); rotate_left; (focus (simp <;> omega))) | with_reducible apply Blk.set' | with_reducible exact SetEq.rfl' | (simp [SetEq]; done) | (simp [SetEq]; omega)))
  · exact Below.heap_setCell w1 ⟨q, 2, none⟩ _ g (fun h => HQ1.out (hg.trans (congrArg some h)))
  · (repeat (first | with_reducible exact Only.refl _ _ | with_reducible exact HO1.out | with_reducible refine Only.drew ?_ | with_reducible refine Only.drewN ?_ _ | with_reducible refine Only.alloc ?_ _ | ((with_reducible refine Only.setCell ?_ ?_ _); rotate_left; (focus (first | (left; simp; done) | (right; simp; done) | (right; simp; omega) | (right; omega))))))
  · exact HN1.out.imp id (fun h g hg => by have := h g hg; simp at this; omega)
end Go.Proofs.Ytlkfkdcdokinpaa
