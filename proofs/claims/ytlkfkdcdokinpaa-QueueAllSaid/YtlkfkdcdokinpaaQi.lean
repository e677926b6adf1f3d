import Derived.Test.YtlkfkdcdokinpaaQh
namespace Go.Proofs.Ytlkfkdcdokinpaa
open Go.RowKit Go.Fl

/-- The relation of Take's loop. -/
structure TakeR (w : World) (q : Nat) (cap bytes : Int) (held line : List Item) (l lv : Value) (mb : Nat) (most byt : Int) (v s : Value) (wr : World) (out held1 : List Item) (f1 : Nat) (ks1 : List Int) : Prop where
  H : QOk wr q cap bytes held1 line l lv f1 mb ks1
  O : Sl wr 38 2 v out.length (cells out)
  sz : s = .int .i64 (sum out)
  fresh : ∀ g, v.ownBlock = some g → w.heap.size ≤ g
  far : ∀ g, v.ownBlock = some g → g ∉ qblocks q mb l lv
  step : takeL most byt out held1 = takeL most byt [] held
  only : Only [q, mb] w wr
  sum : sum out + sum held1 = sum held
  len : out.length + held1.length = held.length
  pos : Sized out
theorem TakeR.only' {w : World} {q : Nat} {cap bytes : Int} {held line : List Item} {l lv : Value} {mb : Nat} {most byt : Int} {v s : Value} {wr w2 : World} {out held1 : List Item} {f1 : Nat} {ks1 : List Int}
    (h : TakeR w q cap bytes held line l lv mb most byt v s wr out held1 f1 ks1) (ho : Only [] wr w2) : TakeR w q cap bytes held line l lv mb most byt v s w2 out held1 f1 ks1 :=
  ⟨h.H.only ho (by simp), h.O.only ho (by simp), h.sz, h.fresh, h.far, h.step, h.only.trans' ho (by simp), h.sum, h.len, h.pos⟩
theorem take_round {w : World} {q : Nat} {cap bytes : Int} {held line : List Item} {l lv : Value} {mb : Nat} {most byt : Int} {v s v' s' : Value} {wr w7 : World} {x : Item} {out held1 : List Item} {f1 f4 : Nat} {ks1 : List Int}
    (h : TakeR w q cap bytes held line l lv mb most byt v s wr out (x :: held1) f1 ks1) (hH : QOk w7 q cap bytes held1 line l lv f4 mb (ks1.erase x.1)) (hO : Sl w7 38 2 v' (out ++ [x]).length (cells (out ++ [x]))) (hs : s' = .int .i64 (sum (out ++ [x])))
    (ha : v'.ownBlock = v.ownBlock ∨ ∀ g, v'.ownBlock = some g → wr.heap.size ≤ g) (hst : (out.length : Int) < most ∧ (out = [] ∨ Go.Proofs.Ytlkfkdcdokinpaa.sum out + x.2 ≤ byt)) (hW : Only [q, mb] w w7) : TakeR w q cap bytes held line l lv mb most byt v' s' w7 (out ++ [x]) held1 f4 (ks1.erase x.1) := by
  have hx := h.H.okh.sized x (List.mem_cons_self ..)
  refine ⟨hH, hO, hs, fun g hg => ?_, fun g hg => ?_, ?_, hW, ?_, ?_, ?_⟩
  · rcases ha with h1 | h1
    · exact h.fresh g (h1 ▸ hg)
    · exact Nat.le_trans h.only.size (h1 g hg)
  · rcases ha with h1 | h1
    · exact h.far g (h1 ▸ hg)
    · intro hh
      have := h1 g hg
      rw [mem_q'] at hh
      rcases hh with rfl | rfl | hh | hh
      · have := h.H.B.lt; omega
      · have := h.H.M.lt; omega
      · have := h.H.R.lt g hh; omega
      · have := h.H.S.lt g hh; omega
  · rw [← h.step]; conv => rhs; rw [takeL, if_pos hst]
  · have := h.sum; rw [sum_cons] at this; rw [sum_append]; omega
  · have := h.len; simp at this ⊢; omega
  · intro y hy
    rcases List.mem_append.1 hy with hy | hy
    · exact h.pos y hy
    · simp at hy; subst hy; exact hx
def TakeE (w : World) (q : Nat) (cap bytes : Int) (held line : List Item) (l lv : Value) (mb : Nat) (most byt : Int) (k : Nat) (v s : Value) (wr : World) : Prop :=
  ∃ out held1 f1 ks1, k = held1.length ∧ TakeR w q cap bytes held line l lv mb most byt v s wr out held1 f1 ks1

def TakeD (w : World) (q : Nat) (S : List Nat) (cap bytes : Int) (r : (List Item × List Int) × List Item × List Item) (e : Ending) (w' : World) : Prop :=
  ∃ v u, e = .returned (.tuple #[v, u]) ∧ Fresh w w' v r.1.1 ∧ FreshI w w' u r.1.2 ∧ QStep w w' q S cap bytes r.2.1 r.2.2


theorem take_end {w : World} {q : Nat} {cap bytes : Int} {held line : List Item} {l lv : Value} {mb : Nat} {most byt : Int} {v s : Value} {wr : World} {out held1 : List Item} {f1 : Nat} {ks1 : List Int}
    (h : TakeR w q cap bytes held line l lv mb most byt v s wr out held1 f1 ks1) (hs : takeL most byt out held1 = (out, held1)) {w2 : World} {u : Value} (hF : FreshI wr w2 u (come cap bytes held1 line).1)
    (hQ : QStep wr w2 q (qblocks q mb l lv) cap bytes (come cap bytes held1 line).2.1 (come cap bytes held1 line).2.2) (hO : Only (q :: l.ownBlock.toList) wr w2) {e : Ending} (he : e = .returned (.tuple #[v, u])) : TakeD w q (qblocks q mb l lv) cap bytes (takeM cap bytes held line most byt) e w2 := by
  have hm : takeM cap bytes held line most byt = ((out, (come cap bytes held1 line).1), (come cap bytes held1 line).2) := by unfold takeM; rw [← h.step, hs]
  rw [hm]
  refine ⟨v, u, he, ⟨h.O.only hO ?_, h.fresh⟩, ⟨hF.1, fun g hg => Nat.le_trans h.only.size (hF.2 g hg)⟩, .trans (h.only.mono (by simp [qblocks])) (fun g hg => .inl hg) hQ⟩
  intro g hg hh
  refine h.far g hg ?_
  rw [mem_q']
  rcases List.mem_cons.1 hh with h1 | h1
  · exact .inl h1
  · exact .inr (.inr (.inl (by simpa using h1)))


set_option maxHeartbeats 3200000 in
theorem take_go {q : Nat} {cap bytes : Int} {held line : List Item} {l lv : Value} {f mb : Nat} {ks : List Int} (most byt : Int) (w : World) (h : QOk w q cap bytes held line l lv f mb ks) :
    Calls Try.prog 9 #[.pointer (some ⟨q, 0, none⟩), .int .i64 most, .int .i64 byt] w (TakeD w q (qblocks q mb l lv) cap bytes (takeM cap bytes held line most byt)) := by
  obtain ⟨j0, hi, hz0, hz1, hz2⟩ := info_parts info38
  have HC := Lib.hid (there_ok w h.B h.cap0)
  have H0 : TakeE w q cap bytes held line l lv mb most byt held.length (.slice none 0 0) (.int .i64 0) w :=
    ⟨[], held, f, ks, rfl, h, Sl.nil _ _ _, rfl, fun g hg => by simp [Value.ownBlock] at hg, fun g hg => by simp [Value.ownBlock] at hg, rfl, Only.refl _ _, by simp [sum], by simp, fun x hx => by simp at hx⟩
  have HLen := Lib.hid (show held.length ≤ 1024 by have := h.okh.len; have := h.okh.cap1; omega)
  have HSum := Lib.hid (show sum held ≤ 16777216 by have := h.okh.byt; have := h.okh.byt1; omega)
  obtain ⟨hcell, hfz, hlt⟩ := h.B.facts
  clear h
  go_enter Try.func9, Try.ntmps9
  go_wp2_with fail
  refine HC.out.mono ?_
  rintro e w1 ⟨rfl, rfl⟩
  go_wp2
  go_loopg [8, 9] held.length (fun k v s wr => TakeE w q cap bytes held line l lv mb most byt k v s wr)
  case atStart => exact H0
  case round =>
    clear H0 hcell hfz hlt
    obtain ⟨out, held1, f1, ks1, hk, hE⟩ := hrel
    obtain ⟨hcell, hfz, hlt⟩ := hE.H.B.facts
    obtain ⟨a, c, hv, _, _⟩ := hE.O.shape
    have hsz := hE.sz
    have hls := sum_nonneg hE.pos
    have H := Lib.hid hE
    clear hE
    subst hsz
    subst hv
    cases held1 with
    | nil =>
      simp only [List.length_nil] at *
      go_wp2_with fail
      have HE := Lib.hid (enter_q wr H.out.H)
      have HS := Lib.hid (show takeL most byt out [] = (out, []) from by simp [takeL])
      go_wp2_with fail
      refine HE.out.mono ?_
      rintro e w9 ⟨u9, rfl, hF9, hQ9, hO9⟩
      have HT := Lib.hid (take_end (e := .returned (.tuple #[_, u9])) H.out HS.out hF9 hQ9 hO9 rfl)
      clear hF9 hQ9 hO9
      go_wp2
      refine bodyPost_ret (v := .tuple #[_, u9]) ?_ rfl HT.out
      simp [results, Try.results9, go_sem]
    | cons x held2 =>
      simp only [List.length_cons] at *
      have hpos : 0 < ((held2.length + 1 : Nat) : Int) := by omega
      by_cases hm : (out.length : Int) < most
      · have HA := Lib.hid (at_ok 0 x wr H.out.H.B H.out.H.R rfl)
        have hx := H.out.H.okh.sized x (List.mem_cons_self ..)
        have hsm := H.out.sum
        rw [sum_cons] at hsm
        have hls2 := sum_nonneg (l := held2) (fun y hy => H.out.H.okh.sized y (List.mem_cons_of_mem _ hy))
        have hsum := HSum.out
        go_wp2_with fail
        go_at_call 26
        refine HA.out.mono ?_
        rintro e w2 ⟨rfl, ho2⟩
        have hsz2 := ho2.size
        have H2 := Lib.hid (H.out.only' ho2)
        have H3 := Lib.hid (H.out.only' (ho2.alloc (.cells #[.int .i64 x.1, .int .i64 x.2] 38)))
        obtain ⟨hcell, hfz, hlt2⟩ := H2.out.H.B.facts
        have HP := Lib.hid (pop_ok (w2.alloc (.cells #[.int .i64 x.1, .int .i64 x.2] 38)) H3.out.H.B H3.out.H.R (ring_ne H3.out.H.B H3.out.H.R))
        clear ho2
        cases out with
        | nil =>
          have HST : Hid ((([] : List Item).length : Int) < most ∧ (([] : List Item) = [] ∨ sum ([] : List Item) + x.2 ≤ byt)) := Lib.hid ⟨hm, .inl rfl⟩
          simp only [List.length_nil, List.length_cons] at *
          go_wp2_with fail
          refine HP.out.mono ?_
          rintro e w4 ⟨rfl, f4, hB4, hR4, hO4⟩
          simp only [Nat.add_sub_cancel] at hB4 hR4
          have hX4 : Blk w4 w2.heap.size 38 #[.int .i64 x.1, .int .i64 x.2] := (Blk.new w2 38 _).only hO4 (by simp; omega)
          have hOut4 := (H2.out.O.alloc (.cells #[.int .i64 x.1, .int .i64 x.2] 38)).only hO4 (fun g hg hh => H2.out.far g hg (by rw [mem_q']; simp at hh; exact .inl hh))
          have hS4 := (H2.out.H.S.alloc (.cells #[.int .i64 x.1, .int .i64 x.2] 38)).only hO4 (fun g hg hh => sl_ne H2.out.H.B H2.out.H.S (by decide) (by simp at hh; rw [hg, hh]))
          have hM4 := (H2.out.H.M.alloc (.cells #[.int .i64 x.1, .int .i64 x.2] 38)).only hO4 (by simp; exact H2.out.H.M.not_cells H2.out.H.B)
          have hW4 := (H2.out.only.alloc (.cells #[.int .i64 x.1, .int .i64 x.2] 38)).trans' hO4 (by simp)
          have hs4 : w2.heap.size + 1 ≤ w4.heap.size := by have := hO4.size; simp at this; omega
          have HB4 := Lib.hid hB4
          have HR4 := Lib.hid hR4
          have HX4 := Lib.hid hX4
          have HOut4 := Lib.hid hOut4
          have HS4 := Lib.hid hS4
          have HM4 := Lib.hid hM4
          have HW4 := Lib.hid hW4
          clear hB4 hR4 hX4 hOut4 hS4 hM4 hW4 hO4
          go_wp2_with (at_builtin; refine wpList_append_one rfl (.tmp 41) (.tmp 46) 31 rfl 38 j0 _ 2 16 Try.underlying31 hi hz0 hz1 hz2 rfl (by decide) rfl (HOut4.out.alloc _) rfl (Blk.new _ _ _) rfl (by simp [Value.oneCell']) (by have h1 := H2.out.len; have h2 := HLen.out; (try simp only [List.length_cons, List.length_nil] at h1 ⊢); unfold maxLen; omega) (by have h1 := H2.out.len; have h2 := HLen.out; (try simp only [List.length_cons, List.length_nil] at h1 ⊢); omega) ?_)
          intro v5 w5 hO5 hg5 hat5
          have o5 : Only (Value.slice a 0 c).ownBlock.toList w4 w5 := ((Only.refl _ _).alloc _).grown hg5 (fun k hk => .inl (by simp [hk]))
          have hfar : ∀ g ∈ qblocks q mb l lv, g ∉ (Value.slice a 0 c).ownBlock.toList := fun g hg hh => H2.out.far g (by simpa using hh) hg
          have hB5 := HB4.out.only o5 (hfar q mem_q)
          have hX5 := HX4.out.only o5 (fun hh => by have := H2.out.O.lt _ (show (Value.slice a 0 c).ownBlock = some _ by simpa using hh); omega)
          have hR5 := HR4.out.only o5 (fun g hg => hfar g (mem_l hg))
          have hS5 := HS4.out.only o5 (fun g hg => hfar g (mem_lv hg))
          have hM5 := HM4.out.only o5 (hfar mb mem_m)
          have hW5 := HW4.out.trans' o5 (fun i hi => .inr (H2.out.fresh i (by simpa using hi)))
          have ha5 : v5.ownBlock = (Value.slice a 0 c).ownBlock ∨ ∀ g, v5.ownBlock = some g → wr.heap.size ≤ g := hat5.imp (fun x => x) (fun hh g hg => by rw [hh] at hg; simp at hg; omega)
          have hs5 : w2.heap.size < w5.heap.size := hX5.lt
          have hqm : q ≠ mb := fun hh => H2.out.H.M.not_cells H2.out.H.B hh.symm
          have hvq : v5.ownBlock ≠ some q := fun hh => by
            rcases ha5 with h1 | h1
            · exact H2.out.far q (h1 ▸ hh) mem_q
            · have := h1 q hh; have := H.out.H.B.lt; omega
          have hvm : v5.ownBlock ≠ some mb := fun hh => by
            rcases ha5 with h1 | h1
            · exact H2.out.far mb (h1 ▸ hh) mem_m
            · have := h1 mb hh; have := H.out.H.M.lt; omega
          have hsc : sum (x :: held2) = x.2 + sum held2 := sum_cons ..
          obtain ⟨a5, c5, hv5, _, _⟩ := hO5.shape
          subst hv5
          obtain ⟨hcell, hfz, hlt5⟩ := hB5.facts
          obtain ⟨xc, xf, xlt⟩ := hX5.facts
          have HB5 := Lib.hid hB5
          have HR5 := Lib.hid hR5
          have HX5 := Lib.hid hX5
          have HO5 := Lib.hid hO5
          have HS5 := Lib.hid hS5
          have HM5 := Lib.hid hM5
          have HW5 := Lib.hid hW5
          have HA5 := Lib.hid ha5
          have HVQ := Lib.hid hvq
          have HVM := Lib.hid hvm
          clear hB5 hR5 hX5 hO5 hS5 hM5 hW5 ha5 hvq hvm hg5 hat5 o5 hfar
          go_wp2
          refine Lex.wp_region_text (by kernel_rfl) (by kernel_rfl) ?_
          go_wp2
          refine Lex.sq_done (by rfl) ?_
          go_wp2
          refine Lex.wp_region_text (by kernel_rfl) (by kernel_rfl) ?_
          go_wp2_with (refine wpList_delete (b := mb) (m := setM ks1) (y := x.1) rfl (.tmp 64) (.tmp 66) 55 2 rfl 60 Try.underlying55 Try.underlying2 rfl ((HM5.out.setCell _ _).drew.drew) rfl ?_)
          intro w7 hM7 ho7
          rw [setM_del] at hM7
          have e5 : x.2 + sum held2 - x.2 = sum held2 := by omega
          rw [e5] at ho7
          have hB6 : QB (w5.setCell ⟨q, 2, none⟩ (.int .i64 (sum held2))).drew.drew q cap bytes (sum held2) l (f4 : Nat) held2.length lv (.map (some mb)) := by
            have e : QB (w5.setCell ⟨q, 2, none⟩ (.int .i64 (sum held2))) q cap bytes (sum held2) l (f4 : Nat) held2.length lv (.map (some mb)) := by simpa [QB] using HB5.out.set_ 2 (.int .i64 (sum held2))
            exact e.drew.drew
          have hH7 : QOk w7 q cap bytes held2 line l lv f4 mb (ks1.erase x.1) := H2.out.H.pop hB6
            (HR5.out.keep (w' := (w5.setCell ⟨q, 2, none⟩ (.int .i64 (sum held2))).drew.drew) fun g hg => Below.heap_setCell w5 ⟨q, 2, none⟩ _ g (fun hh => ring_ne H2.out.H.B H2.out.H.R (hg.trans (congrArg some hh))))
            ((HS5.out.far (p := ⟨q, 2, none⟩) (sl_ne H2.out.H.B H2.out.H.S (by decide)) _).drew.drew) hM7 ho7
          have HO7 := Lib.hid (((HO5.out.far (p := ⟨q, 2, none⟩) HVQ.out _).drew.drew).only ho7 (fun g hg hh => HVM.out (by simp at hh; rw [hg, hh])))
          have HH7 := Lib.hid hH7
          have HW7 := Lib.hid ((((HW5.out.setCell (p := ⟨q, 2, none⟩) (.inl (by simp)) (.int .i64 (sum held2))).drew).drew).trans' ho7 (by simp))
          clear hM7 ho7 hH7 hB6
          go_wp2
          refine Lex.sq_done (by rfl) ?_
          go_wp2
          go_roundg held2.length
          case measure => omega
          case rel => exact ⟨[] ++ [x], held2, f4, _, rfl, (take_round H.out HH7.out (by simpa [cells] using HO7.out) (by rw [sum_append]) HA5.out (by simpa using HST.out) HW7.out).only' (by (repeat (first | with_reducible exact Only.refl _ _ | with_reducible exact Only.refl [] w7 | with_reducible refine Only.drew ?_ | with_reducible refine Only.drewN ?_ _ | with_reducible refine Only.alloc ?_ _ | ((with_reducible refine Only.setCell ?_ ?_ _); rotate_left; (focus (first | (left; simp; done) | (right; simp; done) | (right; simp; omega) | (right; omega)))))))⟩
        | cons y out =>
          by_cases hb : sum (y :: out) + x.2 ≤ byt
          · have HST : Hid (((y :: out).length : Int) < most ∧ (y :: out = [] ∨ sum (y :: out) + x.2 ≤ byt)) := Lib.hid ⟨hm, .inr hb⟩
            simp only [List.length_cons] at *
            have hpo : 0 < ((out.length + 1 : Nat) : Int) := by omega
            go_wp2_with fail
            refine HP.out.mono ?_
            rintro e w4 ⟨rfl, f4, hB4, hR4, hO4⟩
            simp only [Nat.add_sub_cancel] at hB4 hR4
            have hX4 : Blk w4 w2.heap.size 38 #[.int .i64 x.1, .int .i64 x.2] := (Blk.new w2 38 _).only hO4 (by simp; omega)
            have hOut4 := (H2.out.O.alloc (.cells #[.int .i64 x.1, .int .i64 x.2] 38)).only hO4 (fun g hg hh => H2.out.far g hg (by rw [mem_q']; simp at hh; exact .inl hh))
            have hS4 := (H2.out.H.S.alloc (.cells #[.int .i64 x.1, .int .i64 x.2] 38)).only hO4 (fun g hg hh => sl_ne H2.out.H.B H2.out.H.S (by decide) (by simp at hh; rw [hg, hh]))
            have hM4 := (H2.out.H.M.alloc (.cells #[.int .i64 x.1, .int .i64 x.2] 38)).only hO4 (by simp; exact H2.out.H.M.not_cells H2.out.H.B)
            have hW4 := (H2.out.only.alloc (.cells #[.int .i64 x.1, .int .i64 x.2] 38)).trans' hO4 (by simp)
            have hs4 : w2.heap.size + 1 ≤ w4.heap.size := by have := hO4.size; simp at this; omega
            have HB4 := Lib.hid hB4
            have HR4 := Lib.hid hR4
            have HX4 := Lib.hid hX4
            have HOut4 := Lib.hid hOut4
            have HS4 := Lib.hid hS4
            have HM4 := Lib.hid hM4
            have HW4 := Lib.hid hW4
            clear hB4 hR4 hX4 hOut4 hS4 hM4 hW4 hO4
            go_wp2_with (at_builtin; refine wpList_append_one rfl (.tmp 41) (.tmp 46) 31 rfl 38 j0 _ 2 16 Try.underlying31 hi hz0 hz1 hz2 rfl (by decide) rfl (HOut4.out.alloc _) rfl (Blk.new _ _ _) rfl (by simp [Value.oneCell']) (by have h1 := H2.out.len; have h2 := HLen.out; (try simp only [List.length_cons, List.length_nil] at h1 ⊢); unfold maxLen; omega) (by have h1 := H2.out.len; have h2 := HLen.out; (try simp only [List.length_cons, List.length_nil] at h1 ⊢); omega) ?_)
            intro v5 w5 hO5 hg5 hat5
            have o5 : Only (Value.slice a (out.length + 1 : Nat) c).ownBlock.toList w4 w5 := ((Only.refl _ _).alloc _).grown hg5 (fun k hk => .inl (by simp [hk]))
            have hfar : ∀ g ∈ qblocks q mb l lv, g ∉ (Value.slice a (out.length + 1 : Nat) c).ownBlock.toList := fun g hg hh => H2.out.far g (by simpa using hh) hg
            have hB5 := HB4.out.only o5 (hfar q mem_q)
            have hX5 := HX4.out.only o5 (fun hh => by have := H2.out.O.lt _ (show (Value.slice a (out.length + 1 : Nat) c).ownBlock = some _ by simpa using hh); omega)
            have hR5 := HR4.out.only o5 (fun g hg => hfar g (mem_l hg))
            have hS5 := HS4.out.only o5 (fun g hg => hfar g (mem_lv hg))
            have hM5 := HM4.out.only o5 (hfar mb mem_m)
            have hW5 := HW4.out.trans' o5 (fun i hi => .inr (H2.out.fresh i (by simpa using hi)))
            have ha5 : v5.ownBlock = (Value.slice a (out.length + 1 : Nat) c).ownBlock ∨ ∀ g, v5.ownBlock = some g → wr.heap.size ≤ g := hat5.imp (fun x => x) (fun hh g hg => by rw [hh] at hg; simp at hg; omega)
            have hs5 : w2.heap.size < w5.heap.size := hX5.lt
            have hqm : q ≠ mb := fun hh => H2.out.H.M.not_cells H2.out.H.B hh.symm
            have hvq : v5.ownBlock ≠ some q := fun hh => by
              rcases ha5 with h1 | h1
              · exact H2.out.far q (h1 ▸ hh) mem_q
              · have := h1 q hh; have := H.out.H.B.lt; omega
            have hvm : v5.ownBlock ≠ some mb := fun hh => by
              rcases ha5 with h1 | h1
              · exact H2.out.far mb (h1 ▸ hh) mem_m
              · have := h1 mb hh; have := H.out.H.M.lt; omega
            have hsc : sum (x :: held2) = x.2 + sum held2 := sum_cons ..
            obtain ⟨a5, c5, hv5, _, _⟩ := hO5.shape
            subst hv5
            obtain ⟨hcell, hfz, hlt5⟩ := hB5.facts
            obtain ⟨xc, xf, xlt⟩ := hX5.facts
            have HB5 := Lib.hid hB5
            have HR5 := Lib.hid hR5
            have HX5 := Lib.hid hX5
            have HO5 := Lib.hid hO5
            have HS5 := Lib.hid hS5
            have HM5 := Lib.hid hM5
            have HW5 := Lib.hid hW5
            have HA5 := Lib.hid ha5
            have HVQ := Lib.hid hvq
            have HVM := Lib.hid hvm
            clear hB5 hR5 hX5 hO5 hS5 hM5 hW5 ha5 hvq hvm hg5 hat5 o5 hfar
            go_wp2
            refine Lex.wp_region_text (by kernel_rfl) (by kernel_rfl) ?_
            go_wp2
            refine Lex.sq_done (by rfl) ?_
            go_wp2
            refine Lex.wp_region_text (by kernel_rfl) (by kernel_rfl) ?_
            go_wp2_with (refine wpList_delete (b := mb) (m := setM ks1) (y := x.1) rfl (.tmp 64) (.tmp 66) 55 2 rfl 60 Try.underlying55 Try.underlying2 rfl ((HM5.out.setCell _ _).drew.drew) rfl ?_)
            intro w7 hM7 ho7
            rw [setM_del] at hM7
            have e5 : x.2 + sum held2 - x.2 = sum held2 := by omega
            rw [e5] at ho7
            have hB6 : QB (w5.setCell ⟨q, 2, none⟩ (.int .i64 (sum held2))).drew.drew q cap bytes (sum held2) l (f4 : Nat) held2.length lv (.map (some mb)) := by
              have e : QB (w5.setCell ⟨q, 2, none⟩ (.int .i64 (sum held2))) q cap bytes (sum held2) l (f4 : Nat) held2.length lv (.map (some mb)) := by simpa [QB] using HB5.out.set_ 2 (.int .i64 (sum held2))
              exact e.drew.drew
            have hH7 : QOk w7 q cap bytes held2 line l lv f4 mb (ks1.erase x.1) := H2.out.H.pop hB6
              (HR5.out.keep (w' := (w5.setCell ⟨q, 2, none⟩ (.int .i64 (sum held2))).drew.drew) fun g hg => Below.heap_setCell w5 ⟨q, 2, none⟩ _ g (fun hh => ring_ne H2.out.H.B H2.out.H.R (hg.trans (congrArg some hh))))
              ((HS5.out.far (p := ⟨q, 2, none⟩) (sl_ne H2.out.H.B H2.out.H.S (by decide)) _).drew.drew) hM7 ho7
            have HO7 := Lib.hid (((HO5.out.far (p := ⟨q, 2, none⟩) HVQ.out _).drew.drew).only ho7 (fun g hg hh => HVM.out (by simp at hh; rw [hg, hh])))
            have HH7 := Lib.hid hH7
            have HW7 := Lib.hid ((((HW5.out.setCell (p := ⟨q, 2, none⟩) (.inl (by simp)) (.int .i64 (sum held2))).drew).drew).trans' ho7 (by simp))
            clear hM7 ho7 hH7 hB6
            go_wp2
            refine Lex.sq_done (by rfl) ?_
            go_wp2
            go_roundg held2.length
            case measure => omega
            case rel => exact ⟨(y :: out) ++ [x], held2, f4, _, rfl, (take_round H.out HH7.out (by simpa [cells] using HO7.out) (by rw [sum_append]) HA5.out (by simpa using HST.out) HW7.out).only' (by (repeat (first | with_reducible exact Only.refl _ _ | with_reducible exact Only.refl [] w7 | with_reducible refine Only.drew ?_ | with_reducible refine Only.drewN ?_ _ | with_reducible refine Only.alloc ?_ _ | ((with_reducible refine Only.setCell ?_ ?_ _); rotate_left; (focus (first | (left; simp; done) | (right; simp; done) | (right; simp; omega) | (right; omega)))))))⟩
          · have HB := Lib.hid hb
            simp only [List.length_cons] at *
            have hpo : 0 < ((out.length + 1 : Nat) : Int) := by omega
            go_wp2_with fail
            have HE := Lib.hid (enter_q (w2.alloc (.cells #[.int .i64 x.1, .int .i64 x.2] 38)) H3.out.H)
            have HS := Lib.hid (show takeL most byt (y :: out) (x :: held2) = ((y :: out), (x :: held2)) from by rw [takeL, if_neg (fun hh => by have h1 := HB.out; rcases hh.2 with h2 | h2; { exact absurd h2 (by simp) }; { omega })])
            go_wp2_with fail
            refine HE.out.mono ?_
            rintro e w9 ⟨u9, rfl, hF9, hQ9, hO9⟩
            have HT := Lib.hid (take_end (e := .returned (.tuple #[_, u9])) H3.out HS.out hF9 hQ9 hO9 rfl)
            clear hF9 hQ9 hO9
            go_wp2
            refine bodyPost_ret (v := .tuple #[_, u9]) ?_ rfl HT.out
            simp [results, Try.results9, go_sem]
      · have HM := Lib.hid hm
        go_wp2_with fail
        have HE := Lib.hid (enter_q wr H.out.H)
        have HS := Lib.hid (show takeL most byt out (x :: held2) = (out, (x :: held2)) from by rw [takeL, if_neg (fun hh => by have := HM.out; have := hh.1; omega)])
        go_wp2_with fail
        refine HE.out.mono ?_
        rintro e w9 ⟨u9, rfl, hF9, hQ9, hO9⟩
        have HT := Lib.hid (take_end (e := .returned (.tuple #[_, u9])) H.out HS.out hF9 hQ9 hO9 rfl)
        clear hF9 hQ9 hO9
        go_wp2
        refine bodyPost_ret (v := .tuple #[_, u9]) ?_ rfl HT.out
        simp [results, Try.results9, go_sem]
theorem take_ok {q : Nat} {cap bytes : Int} {held line : List Item} {S : List Nat} (most byt : Int) (w : World) (h : QIs w q S cap bytes held line) :
    Calls Try.prog 9 #[.pointer (some ⟨q, 0, none⟩), .int .i64 most, .int .i64 byt] w (TakeD w q S cap bytes (takeM cap bytes held line most byt)) := by
  obtain ⟨l, lv, f, mb, ks, h, hS⟩ := h
  refine (take_go most byt w h).mono ?_
  rintro e w' ⟨v, u, h1, h2, h3, h4⟩
  exact ⟨v, u, h1, h2, h3, h4.mono hS⟩
end Go.Proofs.Ytlkfkdcdokinpaa
