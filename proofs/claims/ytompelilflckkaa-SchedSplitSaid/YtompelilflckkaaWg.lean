/-
  Helpers of the laws' walks: a slice beside one that grows; several elements appended; picks as arguments; what may be asked for.
-/
import Derived.Test.YtompelilflckkaaVx
import Derived.Test.YtompelilflckkaaWb
namespace Go.Proofs.Ytompelilflckkaa
open Go.RowKit Go.Fl

/-- A slice beside one that grows. -/
theorem sl_beside {w w' : World} {e size n : Nat} {v : Value} {xs : List Value} {row : Option Nat} (h : Sl w e size v n xs) (hg : w.grownBy w' row) (hne : ∀ g, v.ownBlock = some g → row ≠ some g) : Sl w' e size v n xs :=
  h.keep fun g hv => hg.block g (h.lt g hv) (fun k => hne g hv k.symm)
/-- Several elements, just laid in a block of their own. -/
theorem wpList_append_many {P : Program} {w : World} {ops : Array Oper} {rest : List Oper} {o : Oper} {a : Act} {Q : Exit → Act → World → Prop} (hgd : o.guard = none) (s x : Operand) (t : TypeId)
    (ho : o.op = .call { callee := .builtin .append, args := #[s, x], argTypes := #[t, t] })
    (e : TypeId) (i : TypeInfo) (z : Value) (size bytes : Nat) (ht : P.underlying t = some (.slice e)) (hi : P.info? e = some i) (hz : i.zero = some z)
    (hsize : i.size = size) (hby : i.bytes = bytes) (hzs : z.cells.size = size) (hsz : 0 < size)
    {v : Value} {n : Nat} {xs : List Value} (hs : a.eval s = v) (hown : Sl w e size v n xs)
    {g c m : Nat} {news : List Value} (hx : a.eval x = .slice (some ⟨g, 0, none⟩) m c) (hb : Blk w g e news.toArray) (hl : news.length = m * size) (h1 : ∀ u ∈ news, u.oneCell' = true)
    (h63 : n + m ≤ maxLen) (hbytes : (n + m) * bytes ≤ 140737488355328)
    (h : ∀ v' w', Sl w' e size v' (n + m) (xs ++ news) → w.grownBy w' v.ownBlock → (v'.ownBlock = v.ownBlock ∨ v'.ownBlock = some w.heap.size) → wpList P ops Q rest (a.put o.dst v') w') : wpList P ops Q (o :: rest) a w :=
  wpList_append_sl w hgd s x t ho e i z size bytes ht hi hz hsize hby hzs hsz v n xs hs hown ⟨g, 0, none⟩ m c news hx hl
    (fun j u hu => by rw [Addr.add_lit, hb.cell]; simpa using hu) h1 h63 hbytes h
/-- An argument's block stands in the heap. -/
theorem own_of_wide {P : Program} {w : World} {r : Reach} {b0 : Nat} {t e : TypeId} {v : Value} (ht : P.underlying t = some (.slice e)) (h : Value.okWide P w r b0 t v) : ∀ g, v.ownBlock = some g → g < w.heap.size := by
  obtain ⟨a, len, cap, rfl⟩ := Go.WideShapes.okWide_slice ht h
  intro g hg
  cases a with
  | none => cases hg
  | some a =>
    injection hg with hg
    subst hg
    simp only [Value.okWide, ht, Cell.okWide, Cell.ok] at h
    obtain ⟨_, _, _, _, row, cells, hs, _⟩ := h
    unfold World.shape? at hs
    by_cases hlt : a.block < w.heap.size
    · exact hlt
    · rw [Array.getElem?_eq_none (by omega)] at hs
      cases hs
theorem info45 : (Try.prog.info? 45).map (fun i => (i.zero, i.size, i.bytes)) = some (some (.slice none 0 0), 1, 24) := by kernel_rfl
theorem turns_at : ∀ (l : List (Nat × Nat)) (i : Nat) (h : i < l.length), (turns l)[i * 2]? = some (iv (l[i].1 : Int))
  | [], i, h => absurd h (Nat.not_lt_zero _)
  | p :: l, 0, _ => rfl
  | p :: l, i + 1, h => by
    have := turns_at l i (by simpa using h)
    simp only [List.getElem_cons_succ]
    rw [show (i + 1) * 2 = i * 2 + 1 + 1 by omega]
    exact this
theorem ends_at (s : S) (k i : Nat) (h : i < k) : (endsV s k)[i * 2]? = some (iv (how s (s.ts i))) := by
  induction k with
  | zero => omega
  | succ k ih =>
    have hl : (endsV s k).length = k * 2 := by
      unfold endsV
      clear ih h
      induction k with
      | zero => rfl
      | succ k ih => rw [List.range_succ, List.flatMap_append, List.length_append, ih]; simp; omega
    rw [endsV_succ]
    by_cases e : i < k
    · rw [List.getElem?_append_left (by omega)]; exact ih e
    · obtain rfl : i = k := by omega
      rw [List.getElem?_append_right (by omega), hl, Nat.sub_self]; rfl
theorem level_take {l : List (Nat × Nat)} {i : Nat} (h : i < l.length) : level (l.take (i + 1)) = level (l.take i) + if l[i].1 = 0 then 1 else -1 := by
  rw [List.take_succ_eq_append_getElem h, level_snoc]
theorem qPut_succ (k : Nat) : qPut (k + 1) = qPut k ++ [⟨6, 0, 0, (k : Int)⟩] := by
  unfold qPut
  rw [List.range_succ, List.map_append]; rfl
theorem qTake_succ (k : Nat) : qTake (k + 1) = qTake k ++ [⟨7, 0, 3, 0⟩] := by
  unfold qTake
  rw [List.range_succ, List.map_append]; rfl
theorem q_asked {n room : Nat} {ps : List Int} (h2 : n ≤ 100) (h3 : 1 ≤ room) (h4 : room ≤ 16) (h5 : ps.length ≤ 3000) (h6 : ∀ k ∈ ps, 0 ≤ k) : askedM (qTasks n) room ps 65536 = 0 := by
  refine asked_of (by simp [qTasks]) (by omega) (by omega) (by omega) (by omega) (by omega) h6 fun l hl1 => ?_
  simp only [qTasks, List.mem_cons, List.not_mem_nil, or_false] at hl1
  rcases hl1 with rfl | rfl
  · refine ⟨by rw [qPut_len]; omega, fun a ha => ?_⟩
    obtain ⟨k, _, rfl⟩ := List.mem_map.1 ha
    exact ⟨by simp [oddA], by simp [wrongA, rightB, btw]⟩
  · refine ⟨by rw [qTake_len]; omega, fun a ha => ?_⟩
    obtain ⟨k, _, rfl⟩ := List.mem_map.1 ha
    exact ⟨by simp [oddA], by simp [wrongA, rightB, btw]⟩
end Go.Proofs.Ytompelilflckkaa
