/-
  Values: in plain words, and in memory; items.
-/
import Derived.Test.YtffdfegelgpniaaVb
import Derived.Test.YtffdfegelgpniaaArgs3
set_option linter.unusedSimpArgs false
set_option linter.unusedVariables false
namespace Go.Proofs.Ytffdfegelgpniaa
open Go.RowKit Go.Fl Go.ChangeShapes Go.WideShapes Go.Deep

/-- A value, whatever it is. -/
inductive V where
  | mk (kind int : Int) (real : Nat) (text : ByteArray) (list : List V)
/-- An item: a value that may be. -/
inductive I where
  | void
  | truth (n : Int)
  | whole (n : Int)
  | number (b : Nat)
  | text (t : ByteArray)
  | list (l : List I)
def V.kids : V → List V | .mk _ _ _ _ l => l
def bad (k i : Int) (r : Nat) (t : ByteArray) (n : Nat) (room : Int) : Bool :=
  decide (room < 0) || (decide (k ≠ 6) && decide (0 < n)) || (decide (k ≠ 5) && decide (0 < t.size)) || (decide (k ≠ 4) && decide (r ≠ 0)) || (decide (i ≠ 0) && decide (k ≠ 3) && decide (k ≠ 2))
mutual
/-- What take answers, and the room that it leaves. -/
def V.take : V → Nat → Int → Option I × Int
  | .mk k i r t l, nest, room =>
    if bad k i r t l.length (room - 1) = true then (none, room - 1)
    else if k = 1 then (some .void, room - 1)
    else if k = 2 then (if i = 0 ∨ i = 1 then (some (.truth i), room - 1) else (none, room - 1))
    else if k = 3 then (some (.whole i), room - 1)
    else if k = 4 then (some (.number r), room - 1)
    else if k = 5 then (if 0 ≤ room - 1 - t.size then (some (.text t), room - 1 - t.size) else (none, room - 1 - t.size))
    else if k = 6 then (if 8 < nest + 1 then (none, room - 1) else ((takes l (nest + 1) (room - 1)).1.map .list, (takes l (nest + 1) (room - 1)).2))
    else (none, room - 1)
def takes : List V → Nat → Int → Option (List I) × Int
  | [], _, room => (some [], room)
  | v :: l, nest, room =>
    match v.take nest room with
    | (none, r) => (none, r)
    | (some x, r) => ((takes l nest r).1.map (x :: ·), (takes l nest r).2)
end
theorem takes_snoc_none : ∀ (l : List V) (v : V) (nest : Nat) (room : Int) (xs : List I) (r : Int), takes l nest room = (some xs, r) → (v.take nest r).1 = none → ∀ m, takes (l ++ v :: m) nest room = (none, (v.take nest r).2)
  | [], v, nest, room, xs, r, h, hv, m => by
    simp [takes] at h
    obtain ⟨rfl, rfl⟩ := h
    cases hh : v.take nest room with
    | mk a b => rw [hh] at hv; simp at hv; subst hv; simp [takes, hh]
  | u :: l, v, nest, room, xs, r, h, hv, m => by
    cases hh : u.take nest room with
    | mk a b =>
      cases a with
      | none => simp [takes, hh] at h
      | some x =>
        simp only [takes, hh, List.cons_append] at h ⊢
        cases hl : takes l nest b with
        | mk c d =>
          rw [hl] at h
          cases c with
          | none => simp at h
          | some ys =>
            simp at h
            obtain ⟨_, rfl⟩ := h
            rw [takes_snoc_none l v nest b ys d hl hv m]
            rfl
theorem takes_snoc_some : ∀ (l : List V) (v : V) (nest : Nat) (room : Int) (xs : List I) (r : Int) (x : I), takes l nest room = (some xs, r) → (v.take nest r).1 = some x → takes (l ++ [v]) nest room = (some (xs ++ [x]), (v.take nest r).2)
  | [], v, nest, room, xs, r, x, h, hv => by
    simp [takes] at h
    obtain ⟨rfl, rfl⟩ := h
    cases hh : v.take nest room with
    | mk a b => rw [hh] at hv; simp at hv; subst hv; simp [takes, hh]
  | u :: l, v, nest, room, xs, r, x, h, hv => by
    cases hh : u.take nest room with
    | mk a b =>
      cases a with
      | none => simp [takes, hh] at h
      | some y =>
        simp only [takes, hh, List.cons_append] at h ⊢
        cases hl : takes l nest b with
        | mk c d =>
          rw [hl] at h
          cases c with
          | none => simp at h
          | some ys =>
            simp at h
            obtain ⟨rfl, rfl⟩ := h
            rw [takes_snoc_some l v nest b ys d x hl hv]
            rfl
mutual
theorem V.take_room : ∀ (v : V) (nest : Nat) (room : Int) (x : I), (v.take nest room).1 = some x → 0 ≤ (v.take nest room).2 ∧ (v.take nest room).2 < room
  | .mk k i r t l, nest, room, x, h => by
    unfold V.take at h ⊢
    by_cases hb : bad k i r t l.length (room - 1) = true
    · rw [if_pos hb] at h; cases h
    have hr : 0 ≤ room - 1 := by unfold bad at hb; simp at hb; omega
    rw [if_neg hb] at h ⊢
    split at h
    · rw [if_pos (by assumption)]; exact ⟨hr, by show room - 1 < room; omega⟩
    · rename_i h1
      rw [if_neg h1]
      split at h
      · rename_i h2
        rw [if_pos h2]
        split at h
        · rw [if_pos (by assumption)]; exact ⟨hr, by show room - 1 < room; omega⟩
        · cases h
      · rename_i h2
        rw [if_neg h2]
        split at h
        · rw [if_pos (by assumption)]; exact ⟨hr, by show room - 1 < room; omega⟩
        · rename_i h3
          rw [if_neg h3]
          split at h
          · rw [if_pos (by assumption)]; exact ⟨hr, by show room - 1 < room; omega⟩
          · rename_i h4
            rw [if_neg h4]
            split at h
            · rename_i h5
              rw [if_pos h5]
              split at h
              · rename_i h6
                rw [if_pos h6]
                exact ⟨h6, by show room - 1 - t.size < room; omega⟩
              · cases h
            · rename_i h5
              rw [if_neg h5]
              split at h
              · rename_i h6
                rw [if_pos h6]
                split at h
                · cases h
                · rename_i h7
                  rw [if_neg h7]
                  cases hl : takes l (nest + 1) (room - 1) with
                  | mk a b =>
                    rw [hl] at h
                    cases a with
                    | none => cases h
                    | some xs =>
                      have := takes_room l (nest + 1) (room - 1) xs hr (by rw [hl])
                      rw [hl] at this
                      exact ⟨this.1, by show b < room; have := this.2; simp at this; omega⟩
              · cases h
theorem takes_room : ∀ (l : List V) (nest : Nat) (room : Int) (xs : List I), 0 ≤ room → (takes l nest room).1 = some xs → 0 ≤ (takes l nest room).2 ∧ (takes l nest room).2 ≤ room
  | [], _, room, xs, h0, h => by simp [takes, h0]
  | v :: l, nest, room, xs, h0, h => by
    cases hh : v.take nest room with
    | mk a b =>
      cases a with
      | none => simp [takes, hh] at h
      | some x =>
        have h1 := V.take_room v nest room x (by rw [hh])
        rw [hh] at h1
        simp only [takes, hh] at h ⊢
        cases hl : takes l nest b with
        | mk c d =>
          rw [hl] at h
          cases c with
          | none => simp at h
          | some ys =>
            have h2 := takes_room l nest b ys h1.1 (by rw [hl])
            rw [hl] at h2
            have := h1.2
            have := h2.2
            simp at *
            omega
end
/-- A value in memory: its five cells; all its lists lie in blocks with F. -/
inductive VIs (w : World) (F : Nat → Prop) : V → List Value → Prop
  | mk {k i : Int} {r : Nat} {t : ByteArray} {l : List V} {a : Option Addr} {cap : Nat} (css : Nat → List Value) : (Lit.int .i64 k).wf = true → (Lit.int .i64 i).wf = true → r < 18446744073709551616 → t.size ≤ maxLen → l.length ≤ cap → cap ≤ maxLen →
      (0 < l.length → ∃ g off, a = some ⟨g, off, none⟩ ∧ g < w.heap.size ∧ F g ∧ ∀ j c u, j < l.length → (css j)[c]? = some u → w.cell? ⟨g, off + j * 5 + c, none⟩ = some u) →
      (∀ j (h : j < l.length), VIs w F l[j] (css j)) → VIs w F (.mk k i r t l) [iv k, iv i, fv r, .string t, .slice a l.length cap]
def I.typ : I → TypeId
  | .void => 103 | .truth _ => 104 | .whole _ => 105 | .number _ => 106 | .text _ => 107 | .list _ => 112
/-- What an item holds, in memory. -/
inductive IIs (w : World) (F : Nat → Prop) : I → Value → Prop
  | void : IIs w F .void (.agg #[])
  | truth (n : Int) : (Lit.int .i64 n).wf = true → IIs w F (.truth n) (iv n)
  | whole (n : Int) : (Lit.int .i64 n).wf = true → IIs w F (.whole n) (iv n)
  | number (b : Nat) : b < 18446744073709551616 → IIs w F (.number b) (fv b)
  | text (t : ByteArray) : t.size ≤ maxLen → IIs w F (.text t) (.string t)
  | list {l : List I} {a : Option Addr} {cap : Nat} (us : Nat → Value) : l.length ≤ cap → cap ≤ maxLen →
      (0 < l.length → ∃ g off, a = some ⟨g, off, none⟩ ∧ g < w.heap.size ∧ F g ∧ ∀ j (h : j < l.length), w.cell? ⟨g, off + j, none⟩ = some (.iface l[j].typ (us j))) →
      (∀ j (h : j < l.length), IIs w F l[j] (us j)) → IIs w F (.list l) (.slice a l.length cap)
section
variable {w w' : World} {F F' : Nat → Prop}
theorem VIs.keep {v : V} {cs : List Value} (h : VIs w F v cs) (hs : w.heap.size ≤ w'.heap.size) (hk : ∀ g, F g → g < w.heap.size → w'.heap[g]? = w.heap[g]?) (hF : ∀ g, F g → g < w.heap.size → F' g) : VIs w' F' v cs := by
  induction h with
  | mk css h1 h2 h3 h4 h5 h6 h7 h8 ih =>
    refine .mk css h1 h2 h3 h4 h5 h6 (fun h0 => ?_) ih
    obtain ⟨g, off, rfl, hg, hf, hc⟩ := h7 h0
    exact ⟨g, off, rfl, Nat.lt_of_lt_of_le hg hs, hF g hf hg, fun j c u hj hu => (World.cell?_of_block (w := w) (hk g hf hg)).trans (hc j c u hj hu)⟩
theorem IIs.keep {x : I} {u : Value} (h : IIs w F x u) (hs : w.heap.size ≤ w'.heap.size) (hk : ∀ g, F g → g < w.heap.size → w'.heap[g]? = w.heap[g]?) (hF : ∀ g, F g → g < w.heap.size → F' g) : IIs w' F' x u := by
  induction h with
  | void => exact .void
  | truth n h => exact .truth n h
  | whole n h => exact .whole n h
  | number n h => exact .number n h
  | text n h => exact .text n h
  | list us h5 h6 h7 h8 ih =>
    refine .list us h5 h6 (fun h0 => ?_) ih
    obtain ⟨g, off, rfl, hg, hf, hc⟩ := h7 h0
    exact ⟨g, off, rfl, Nat.lt_of_lt_of_le hg hs, hF g hf hg, fun j hj => (World.cell?_of_block (w := w) (hk g hf hg)).trans (hc j hj)⟩
theorem VIs.only {S : List Nat} {v : V} {cs : List Value} (h : VIs w F v cs) (ho : Only S w w') (hF : ∀ g, F g → g ∉ S) : VIs w' F v cs := h.keep ho.size (fun g hf hg => ho.block g hg (hF g hf)) fun _ h _ => h
theorem IIs.only {S : List Nat} {x : I} {u : Value} (h : IIs w F x u) (ho : Only S w w') (hF : ∀ g, F g → g ∉ S) : IIs w' F x u := h.keep ho.size (fun g hf hg => ho.block g hg (hF g hf)) fun _ h _ => h
theorem VIs.only0 {v : V} {cs : List Value} (h : VIs w F v cs) (ho : Only [] w w') : VIs w' F v cs := h.only ho fun _ _ => by simp
theorem IIs.only0 {x : I} {u : Value} (h : IIs w F x u) (ho : Only [] w w') : IIs w' F x u := h.only ho fun _ _ => by simp
theorem VIs.mono {v : V} {cs : List Value} (h : VIs w F v cs) (hF : ∀ g, F g → F' g) : VIs w F' v cs := h.keep (Nat.le_refl _) (fun _ _ _ => rfl) fun g h _ => hF g h
theorem IIs.mono {x : I} {u : Value} (h : IIs w F x u) (hF : ∀ g, F g → F' g) : IIs w F' x u := h.keep (Nat.le_refl _) (fun _ _ _ => rfl) fun g h _ => hF g h
theorem VIs.five {v : V} {cs : List Value} (h : VIs w F v cs) : ∃ (k i : Int) (r : Nat) (t : ByteArray) (a : Option Addr) (n cap : Nat), cs = [iv k, iv i, fv r, .string t, .slice a n cap] := by
  cases h with
  | mk css => exact ⟨_, _, _, _, _, _, _, rfl⟩
end
/-- The item of a value, or nil. -/
def OkI (w : World) (F : Nat → Prop) : Option I → Value → Prop
  | none, v => v = .nilIface
  | some x, v => ∃ u, v = .iface x.typ u ∧ IIs w F x u
section
variable {H : Type} {enc : TypeId × Value → H} {w : World}
theorem spot_none {a : Addr} {v : Value} (h : w.cell? a = some v) : a.spot = none := by
  unfold World.cell? at h
  split at h
  · split at h
    · cases h
    · rename_i k; simpa using k
  · cases h
theorem trod_real {t : TypeId} {fuel : Nat} {cs : List Value} {x : DataW H × List MemPlace} (ht : Try.prog.underlying t = some (.float .f64)) (h : DataW.trod enc Try.prog w 0 (fun _ => true) true fuel t cs = some x) : ∃ b, cs = [fv b] ∧ b < 18446744073709551616 := by
  cases fuel with
  | zero => simp [DataW.trod] at h
  | succ n =>
    unfold DataW.trod at h
    rw [ht] at h
    split at h <;> simp_all
    obtain ⟨⟨h0, h1⟩, _⟩ := h
    rename_i hk _
    subst hk
    exact of_decide_eq_true h1
/-- A value is read of five cells. -/
theorem open_cells : ∀ (fuel : Nat) (cs : List Value) (x : DataW H × List MemPlace), DataW.trod enc Try.prog w 0 (fun _ => true) true fuel 33 cs = some x → ∃ v, VIs w (· < w.heap.size) v cs := by
  intro fuel
  induction fuel using Nat.strongRecOn with
  | _ fuel ih =>
  intro cs x h
  obtain ⟨xs, n, hn, _, hlen, hxl, hat⟩ := DataW.trod_struct Try.underlying33 h
  replace hxl : xs.length = 5 := hxl
  have hc33 : Try.prog.cellsOf 33 = 5 := by kernel_rfl
  have hc3 : Try.prog.cellsOf 3 = 1 := by kernel_rfl
  have hc2 : Try.prog.cellsOf 2 = 1 := by kernel_rfl
  have hc30 : Try.prog.cellsOf 30 = 1 := by kernel_rfl
  have hc9 : Try.prog.cellsOf 9 = 1 := by kernel_rfl
  have hc31 : Try.prog.cellsOf 31 = 1 := by kernel_rfl
  rw [hc33] at hlen
  obtain ⟨x0, x1, x2, x3, x4, rfl⟩ : ∃ x0 x1 x2 x3 x4, xs = [x0, x1, x2, x3, x4] := by
    rcases xs with _ | ⟨c0, _ | ⟨c1, _ | ⟨c2, _ | ⟨c3, _ | ⟨c4, _ | _⟩⟩⟩⟩⟩
    case cons.cons.cons.cons.cons.nil => exact ⟨c0, c1, c2, c3, c4, rfl⟩
    all_goals simp at hxl
  obtain ⟨c0, c1, c2, c3, c4, rfl⟩ : ∃ c0 c1 c2 c3 c4, cs = [c0, c1, c2, c3, c4] := by
    rcases cs with _ | ⟨c0, _ | ⟨c1, _ | ⟨c2, _ | ⟨c3, _ | ⟨c4, _ | _⟩⟩⟩⟩⟩
    case cons.cons.cons.cons.cons.nil => exact ⟨c0, c1, c2, c3, c4, rfl⟩
    all_goals simp at hlen
  have h0 := hat 0 _ rfl
  have h1 := hat 1 _ rfl
  have h2 := hat 2 _ rfl
  have h3 := hat 3 _ rfl
  have h4 := hat 4 _ rfl
  replace h0 : DataW.trod enc Try.prog w 0 (fun _ => true) true n 3 [c0] = some x0 := by simpa [hc3] using h0
  replace h1 : DataW.trod enc Try.prog w 0 (fun _ => true) true n 2 [c1] = some x1 := by simpa [hc2] using h1
  replace h2 : DataW.trod enc Try.prog w 0 (fun _ => true) true n 30 [c2] = some x2 := by simpa [hc30] using h2
  replace h3 : DataW.trod enc Try.prog w 0 (fun _ => true) true n 9 [c3] = some x3 := by simpa [hc9] using h3
  replace h4 : DataW.trod enc Try.prog w 0 (fun _ => true) true n 31 [c4] = some x4 := by simpa [hc31] using h4
  obtain ⟨k, hk, _, wk⟩ := DataW.trod_int Try.underlying3 h0
  obtain ⟨i, hi, _, wi⟩ := DataW.trod_int Try.underlying2 h1
  obtain ⟨b, hb, wb⟩ := trod_real Try.underlying30 h2
  obtain ⟨s, hs, _, ws⟩ := DataW.trod_string Try.underlying9 h3
  simp at hk hi hb hs
  subst hk; subst hi; subst hb; subst hs
  rcases DataW.trod_slice Try.underlying31 h4 with ⟨e, _⟩ | ⟨a, len, cap, elems, rest, m, hm, e, _, _, hl, hcap, hel, hall, _, _⟩
  · simp at e
    subst e
    exact ⟨.mk k i b s [], .mk (l := []) (fun _ => []) wk wi wb ws (Nat.zero_le _) (Nat.zero_le _) (fun h => absurd h (Nat.not_lt_zero _)) fun j h => absurd h (Nat.not_lt_zero _)⟩
  · simp at e
    subst e
    have hone : ∀ j, j < len → ∃ v cs', VIs w (· < w.heap.size) v cs' ∧ w.cells? 0 (a.add (j * 5)) 5 = some cs' := fun j hj => by
      have h5 := hall j hj
      rw [hc33] at h5
      have h6 : elems[j]? = some (elems[j]'(by omega)) := List.getElem?_eq_getElem _
      rw [h6] at h5
      obtain ⟨cs', h7, h8⟩ := Option.bind_eq_some_iff.1 h5
      obtain ⟨v, hv⟩ := ih m (by omega) cs' _ h8
      exact ⟨v, cs', hv, h7⟩
    obtain ⟨l, hll, hp⟩ := list_of (p := fun j v => ∃ cs', VIs w (· < w.heap.size) v cs' ∧ w.cells? 0 (a.add (j * 5)) 5 = some cs') len hone
    subst hll
    have hcell : ∀ j (h : j < l.length), ∀ c u, ((hp j h).choose)[c]? = some u → w.cell? ((a.add (j * 5)).add c) = some u := fun j h c u hu => by
      have h7 := (hp j h).choose_spec.2
      obtain ⟨_, hlen5, hat5⟩ := World.cells?_some h7
      by_cases hc : c < 5
      · exact (hat5 c hc).trans hu
      · rw [List.getElem?_eq_none (by omega)] at hu; cases hu
    refine ⟨.mk k i b s l, .mk (fun j => if h : j < l.length then (hp j h).choose else []) wk wi wb ws hl hcap (fun hn => ?_) fun j h => ?_⟩
    · obtain ⟨d0, d1, d2, d3, d4, d5, d6, hd⟩ := ((hp 0 hn).choose_spec.1).five
      have h7 := hcell 0 hn 0 (iv d0) (by rw [hd]; rfl)
      have hsp : a.spot = none := by simpa [Addr.add] using spot_none h7
      have hlt : a.block < w.heap.size := by simpa [Addr.add] using cell_lt h7
      obtain ⟨g, off, sp⟩ := a
      simp only at hsp
      subst hsp
      refine ⟨g, off, rfl, hlt, hlt, fun j c u hj hu => ?_⟩
      simp only [hj, dif_pos] at hu
      have h8 := hcell j hj c u hu
      rw [Addr.add_lit, Addr.add_lit] at h8
      exact h8
    · simp only [h, dif_pos]
      exact (hp j h).choose_spec.1
end
/-- An argument that is a value. -/
theorem open_value {H : Type} {enc : TypeId × Value → H} {w : World} {v : Value} {d : DataW H} {ps : List MemPlace} (h : DataW.Trod enc Try.prog w 0 (fun _ => true) true 33 v d ps) (hw : ∃ us, v = .agg us) : ∃ x cs, v = .agg cs.toArray ∧ VIs w (· < w.heap.size) x cs := by
  obtain ⟨us, rfl⟩ := hw
  obtain ⟨fuel, h⟩ := h
  obtain ⟨x, hx⟩ := open_cells fuel _ _ h
  exact ⟨x, us.toList, by simp, by simpa [Value.cells] using hx⟩
end Go.Proofs.Ytffdfegelgpniaa
