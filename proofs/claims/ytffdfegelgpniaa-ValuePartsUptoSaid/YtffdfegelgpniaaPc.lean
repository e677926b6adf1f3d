/-
  ValueParts: a slice of values, and a text, as arguments; what the bound on the input's bulk gives.
-/
import Derived.Test.YtffdfegelgpniaaPb
import Derived.Test.YtffdfegelgpniaaRows
import Derived.ChangeMaps5
set_option linter.unusedSimpArgs false
set_option linter.unusedVariables false
namespace Go.Proofs.Ytffdfegelgpniaa
open Go.RowKit Go.Fl Go.ChangeShapes Go.WideShapes Go.Deep

theorem bulk_one {H : Type} (d : DataW H) : 1 ≤ Rows.uptoBulk d := by
  cases d with
  | lit l => cases l <;> simp [Rows.uptoBulk]
  | nil => simp [Rows.uptoBulk]
  | ptr d => simp [Rows.uptoBulk]
  | slice elems spare => simp [Rows.uptoBulk]
  | agg parts => simp [Rows.uptoBulk]
  | iface t d => simp [Rows.uptoBulk]
  | map entries => simp [Rows.uptoBulk]
  | held h => simp [Rows.uptoBulk]
theorem bulk_part {H : Type} {d : DataW H} : ∀ {l : List (DataW H)}, d ∈ l → Rows.uptoBulk d ≤ Rows.uptoBulkAll l
  | [], h => by cases h
  | x :: r, h => by
    simp only [Rows.uptoBulkAll]
    rcases List.mem_cons.1 h with e | e
    · subst e; omega
    · have := bulk_part e
      omega
theorem bulk_len {H : Type} : ∀ (l : List (DataW H)), l.length ≤ Rows.uptoBulkAll l
  | [] => Nat.zero_le _
  | x :: r => by
    simp only [Rows.uptoBulkAll, List.length_cons]
    have h1 := bulk_one x
    have h2 := bulk_len r
    omega
section
variable {H : Type} {enc : TypeId × Value → H} {w : World}
set_option maxRecDepth 100000 in
theorem open_vals {r : Reach} {b0 : Nat} {v : Value} {d : DataW H} {ps : List MemPlace} (hval : Value.okWide Try.prog w r b0 31 v) (h : DataW.Trod enc Try.prog w 0 (fun _ => true) true 31 v d ps) : ∃ l, VL w (· < w.heap.size) l v ∧ l.length ≤ Rows.uptoBulk d := by
  obtain ⟨a, len, cap, rfl⟩ := okWide_slice Try.underlying31 hval
  obtain ⟨fuel, h⟩ := h
  have hc33 : Try.prog.cellsOf 33 = 5 := by kernel_rfl
  rcases DataW.trod_slice Try.underlying31 h with ⟨e, _⟩ | ⟨a', len', cap', elems, rest, m, hm, e, hx, _, hl, hcap, hel, hall, _, _⟩
  · simp [Value.cells] at e
    obtain ⟨rfl, rfl, rfl⟩ := e
    exact ⟨[], ⟨none, 0, fun _ => [], rfl, Nat.le_refl _, Nat.zero_le _, fun h => absurd h (Nat.not_lt_zero _), fun j h => absurd h (Nat.not_lt_zero _)⟩, Nat.zero_le _⟩
  · simp [Value.cells] at e
    obtain ⟨rfl, rfl, rfl⟩ := e
    have hone : ∀ j, j < len → ∃ v cs', VIs w (· < w.heap.size) v cs' ∧ w.cells? 0 (a'.add (j * 5)) 5 = some cs' := fun j hj => by
      have h5 := hall j hj
      rw [hc33] at h5
      have h6 : elems[j]? = some (elems[j]'(by omega)) := List.getElem?_eq_getElem _
      rw [h6] at h5
      obtain ⟨cs', h7, h8⟩ := Option.bind_eq_some_iff.1 h5
      obtain ⟨v, hv⟩ := open_cells m cs' _ h8
      exact ⟨v, cs', hv, h7⟩
    obtain ⟨l, hll, hp⟩ := list_of (p := fun j v => ∃ cs', VIs w (· < w.heap.size) v cs' ∧ w.cells? 0 (a'.add (j * 5)) 5 = some cs') len hone
    subst hll
    have hcell : ∀ j (h : j < l.length), ∀ c u, ((hp j h).choose)[c]? = some u → w.cell? ((a'.add (j * 5)).add c) = some u := fun j h c u hu => by
      have h7 := (hp j h).choose_spec.2
      obtain ⟨_, hlen5, hat5⟩ := World.cells?_some h7
      by_cases hc : c < 5
      · exact (hat5 c hc).trans hu
      · rw [List.getElem?_eq_none (by omega)] at hu; cases hu
    refine ⟨l, ⟨some a', cap, fun j => if h : j < l.length then (hp j h).choose else [], rfl, hl, hcap, fun hn => ?_, fun j h => ?_⟩, ?_⟩
    · obtain ⟨d0, d1, d2, d3, d4, d5, d6, hd⟩ := ((hp 0 hn).choose_spec.1).five
      have h7 := hcell 0 hn 0 (iv d0) (by rw [hd]; rfl)
      have hsp : a'.spot = none := by simpa [Addr.add] using spot_none h7
      have hlt : a'.block < w.heap.size := by simpa [Addr.add] using cell_lt h7
      obtain ⟨g, off, sp⟩ := a'
      simp only at hsp
      subst hsp
      refine ⟨g, off, rfl, hlt, hlt, fun j c u hj hu => ?_⟩
      simp only [hj, dif_pos] at hu
      have h8 := hcell j hj c u hu
      rw [Addr.add_lit, Addr.add_lit] at h8
      exact h8
    · simp only [h, dif_pos]
      exact (hp j h).choose_spec.1
    · have hd : d = .slice (elems.map (·.1)) (rest.map (·.1)) := by injection hx
      have := bulk_len (elems.map (·.1))
      rw [List.length_map, hel] at this
      rw [hd]
      simp only [Rows.uptoBulk]
      omega
end
theorem parts_row (w : World) (s : Value) (l : List V) (h : VL w (· < w.heap.size) l s) (t : ByteArray) (ht : t.size ≤ maxLen) (hb : l.length ≤ 1048576) : Calls Try.prog 5 #[s, .string t] w fun e w' => e = .returned (.bool true) ∧ Only [] w w' :=
  parts_ok w t h hb ht
end Go.Proofs.Ytffdfegelgpniaa
