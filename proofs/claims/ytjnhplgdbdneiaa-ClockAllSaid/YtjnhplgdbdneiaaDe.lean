/-
  Clock: a clock in memory; Len, Push, Pop through the interface.
-/
import Derived.Test.YtjnhplgdbdneiaaDd
set_option linter.unusedSimpArgs false
set_option linter.unusedVariables false
namespace Go.Proofs.Ytjnhplgdbdneiaa
open Go.RowKit Go.Fl

/-- A clock. -/
structure CK (w : World) (r now : Nat) (last : Int) (l : List Tm) (s : Value) : Prop where
  blk : Blk w r 60 #[.bool true, fv now, iv last, s]
  sl : Sl w 70 2 s l.length (tcs l)
  le : ∀ x ∈ l, x.2 ≤ 9218868437227405312
/-- What a call on a clock may turn. -/
structure GW (w : World) (r : Nat) (s : Value) (w' : World) (s' : Value) : Prop where
  only : Only (r :: s.ownBlock.toList) w w'
  own : ∀ g, s'.ownBlock = some g → s.ownBlock = some g ∨ w.heap.size ≤ g
theorem GW.refl (w : World) (r : Nat) (s : Value) : GW w r s w s := ⟨Only.refl _ _, fun g h => .inl h⟩
theorem GW.trans {a b c : World} {r : Nat} {s t u : Value} (h : GW a r s b t) (k : GW b r t c u) : GW a r s c u :=
  ⟨h.only.trans' k.only fun i hi => by
    rcases List.mem_cons.1 hi with e | hi
    · exact .inl (by simp [e])
    · rcases h.own i (by simpa using hi) with e | e
      · exact .inl (by simp [e])
      · exact .inr e, fun g hg => by
    rcases k.own g hg with e | e
    · exact h.own g e
    · exact .inr (Nat.le_trans h.only.size e)⟩
theorem GW.only0 {a b c : World} {r : Nat} {s t : Value} (h : GW a r s b t) (ho : Only [] b c) : GW a r s c t := ⟨h.only.trans (ho.mono (by simp)), h.own⟩
theorem CK.only0 {w w' : World} {r now : Nat} {last : Int} {l : List Tm} {s : Value} (h : CK w r now last l s) (ho : Only [] w w') : CK w' r now last l s :=
  ⟨h.blk.only ho (by simp), h.sl.only ho (fun _ _ => by simp), h.le⟩
theorem CK.ne {w : World} {r now : Nat} {last : Int} {l : List Tm} {s : Value} (h : CK w r now last l s) : s.ownBlock ≠ some r := fun e => by
  obtain ⟨cur, hb⟩ : ∃ cur, Blk w r 70 cur := by
    rcases h.sl.2 with ⟨rfl, _⟩ | ⟨g', off, cap, cur, rfl, hh, _⟩
    · cases e
    · injection e with e
      subst e
      exact ⟨cur, hh⟩
  exact Blk.ne_ hb h.blk (by decide) rfl
theorem info70 : (Try.prog.info? 70).map (fun i => (i.zero, i.size, i.bytes)) = some (some (.agg #[iv 0, fv 0]), 2, 16) := by kernel_rfl
theorem info_parts {e : TypeId} {z : Value} {m b : Nat} (h : (Try.prog.info? e).map (fun i => (i.zero, i.size, i.bytes)) = some (some z, m, b)) : ∃ i, Try.prog.info? e = some i ∧ i.zero = some z ∧ i.size = m ∧ i.bytes = b := by
  cases hi : Try.prog.info? e with
  | none => rw [hi] at h; cases h
  | some i =>
    rw [hi] at h
    injection h with h
    injection h with h1 h2
    injection h2 with h2 h3
    exact ⟨i, rfl, h1, h2, h3⟩
theorem Blk.grown {w w1 : World} {g t : Nat} {cs : Array Value} {row : Option Nat} (hb : Blk w g t cs) (hg : w.grownBy w1 row) (hn : row ≠ some g) : Blk w1 g t cs := (hg.block g hb.lt fun e => hn e.symm).trans hb
theorem sl_two {w : World} {g : Nat} {a b : Value} (h : Blk w g 70 #[a, b]) : Sl w 70 2 (.slice (some ⟨g, 0, none⟩) 1 1) 1 [a, b] :=
  ⟨rfl, .inr ⟨g, 0, 1, _, rfl, h, Nat.le_refl _, by decide, Nat.le_refl _, rfl⟩⟩
/-- One more has been appended; then the slice is laid. -/
theorem push_fact {w w4 : World} {r now : Nat} {last : Int} {l : List Tm} {s v4 : Value} {x : Tm} (h : CK w r now last l s) (hx : x.2 ≤ 9218868437227405312)
    (hS : Sl w4 70 2 v4 (l.length + 1) (tcs l ++ [iv x.1, fv x.2])) (hg : ((w.alloc (.cells #[iv x.1, fv x.2] 70)).drew).grownBy w4 s.ownBlock) (hat : v4.ownBlock = s.ownBlock ∨ v4.ownBlock = some (w.heap.size + 1)) :
    Blk w4 r 60 #[.bool true, fv now, iv last, s] ∧ CK (w4.setCell ⟨r, 3, none⟩ v4) r now last (l ++ [x]) v4 ∧ GW w r s (w4.setCell ⟨r, 3, none⟩ v4) v4 := by
  have hne := h.ne
  have hb4 : Blk w4 r 60 #[.bool true, fv now, iv last, s] := Go.Proofs.Ytjnhplgdbdneiaa.Blk.grown (h.blk.alloc (.cells #[iv x.1, fv x.2] 70)).drew hg fun e => hne e
  have hv4 : v4.ownBlock ≠ some r := fun e => by
    rcases hat with e2 | e2
    · exact hne (e2 ▸ e)
    · rw [e2] at e
      injection e with e
      have := h.blk.lt
      omega
  refine ⟨hb4, ⟨?_, ?_, fun y hy => ?_⟩, ?_, fun g hg2 => ?_⟩
  · have := hb4.set_ 3 v4
    simpa using this
  · rw [List.length_append, tcs_append]
    exact hS.far (by simpa using hv4) _
  · rcases List.mem_append.1 hy with hy | hy
    · exact h.le y hy
    · rw [List.mem_singleton.1 hy]
      exact hx
  · exact (((((Only.refl (r :: s.ownBlock.toList) w).alloc _).drew).grown hg fun k hk => .inl (by simp [hk]))).setCell (.inl (by simp)) _
  · rcases hat with e | e
    · exact .inl (e ▸ hg2)
    · rw [e] at hg2
      injection hg2 with hg2
      right
      rw [← hg2]
      simp
abbrev hpI (r : Nat) : Value := .iface 68 (.pointer (some ⟨r, 3, none⟩))
set_option maxRecDepth 100000 in
set_option maxHeartbeats 1600000 in
theorem push89 (w : World) {r now : Nat} {last : Int} {l : List Tm} {s : Value} (h : CK w r now last l s) (x : Tm) (hx : x.2 ≤ 9218868437227405312) (hl : l.length ≤ 1048576) :
    Calls Try.prog 89 #[.pointer (some ⟨r, 3, none⟩), .iface 70 (.agg #[iv x.1, fv x.2])] w fun e w' => e = .returned (.tuple #[]) ∧ ∃ s', CK w' r now last (l ++ [x]) s' ∧ GW w r s w' s' := by
  obtain ⟨j70, si, sz0, sz1, sz2⟩ := info_parts info70
  have H := Lib.hid h
  have HX := Lib.hid hx
  have x0 := h.blk.cell 3
  have xf := h.blk.frozen 3
  have xl := h.blk.lt
  simp at x0
  have HSr := Lib.hid (h.sl.drew)
  obtain ⟨a, cap, rfl, hcap, _⟩ := h.sl.shape
  have hga : ∀ u, (w.alloc (.cells u 70)).cell? ⟨r, 3, none⟩ = some (.slice a l.length cap) := fun u => by
    have := (H.out.blk.alloc (.cells u 70)).cell 3
    simpa using this
  have ht : ∀ v w, (Instr.typeAssert (.iface 70 v) 20 70 false).run Try.prog w = .ok v w := fun _ _ => by kernel_rfl
  clear h
  go_enter Try.func89, Try.ntmps89
  go_wp2
  go_region_law (first
      | (refine step_append_sls rfl (.tmp 7) (.tmp 10) 58 rfl 70 j70 _ 2 16 Try.underlying58 si sz0 sz1 sz2 rfl (by decide) rfl (HSr.out.alloc _) rfl (sl_two (Blk.new _ _ _)) (by simp [Value.oneCell']) (by unfold maxLen; omega) (by omega) ?_
         intro v4 w4 hS4 hg4 hat4
         have HG4 := Lib.hid (push_fact H.out HX.out hS4 hg4 (hat4.imp (fun e => e) (fun e => by rw [e]; simp)))
         obtain ⟨va, vc, hv4, _, _⟩ := hS4.shape
         subst hv4
         have x4 := HG4.out.1.cell 3
         have xf4 := HG4.out.1.frozen
         have xl4 := HG4.out.1.lt
         simp at x4
         clear hS4 hg4 hat4))
  all_goals
    go_wp2
    exact bodyPost_end (results_none rfl _ _ _) rfl ⟨rfl, _, HG4.out.2⟩
end Go.Proofs.Ytjnhplgdbdneiaa
