/-
  The last step of a law's row: where a call answers true and leaves every block that was there as it was, each argument reads behind the call as it read before.
-/
import Derived.Test.YtompelilflckkaaMb
import Derived.Carry
import Derived.OpenVars
import Derived.OpenShut
import Derived.ProofKit
import Derived.WalkKit
import Derived.ChangeSame
import Derived.Deep.Slices
import Derived.Deep.Fields
set_option linter.unusedSimpArgs false
set_option linter.unusedVariables false
namespace Go.Fl
open Go.RowKit Go.ChangeShapes Go.WideShapes Go.WideElems Go.Deep

section
variable {H : Type} {enc : TypeId × Value → H} {P : Program}
/-- Each of these types can be read. -/
def typesRead (P : Program) (ts : List TypeId) : Bool := ts.all fun t => P.readableRec t && decide (t < P.types.size)
theorem trodAll_lives (hl : laidOutB P = true) {W W' : World} {sp : Nat → Bool} :
    ∀ {ts : List TypeId} {vs : List Value} {ds : List (DataW H)} {ps : List MemPlace}, typesRead P ts = true → DataW.TrodAll enc P W 0 (fun _ => true) true ts vs ds ps → (∀ p ∈ ps, W.sameAt W' p) → (∀ p ∈ ps, sp p.block = true) → DataW.TrodAll enc P W' 0 sp true ts vs ds ps
  | [], vs, ds, ps, _, h, _, _ => by
    obtain ⟨rfl, rfl, rfl⟩ := trodAll_nil h
    rfl
  | t :: ts, vs, ds, ps, hr, h, h1, h2 => by
    obtain ⟨v, vs', d, ds', a, b, rfl, rfl, rfl, ha, hb⟩ := trodAll_cons h
    simp only [typesRead, List.all_cons, Bool.and_eq_true, decide_eq_true_eq] at hr
    exact ⟨a, b, Trod_stays hl hr.1.1 hr.1.2 ha (fun p hp => h1 p (List.mem_append_left _ hp)) (fun p hp => h2 p (List.mem_append_left _ hp)),
      trodAll_lives hl hr.2 hb (fun p hp => h1 p (List.mem_append_right _ hp)) (fun p hp => h2 p (List.mem_append_right _ hp)), rfl⟩

theorem law_post {f : Func} {s : ChangeSpec} {fresh apart : Bool} {W W' : World} {args : Array Value} {ds gs : List (DataW H)} {before : List MemPlace} {bt : TypeId} (hl : laidOutB P = true)
    (hpar : typesRead P f.params.toList = true) (hv : varsRowed P s.vars = true) (hrt : f.resultTypes = #[bt]) (hbt : P.underlying bt = some .bool)
    (hW : DataW.Whole enc P f.params.toList s.vars apart W args.toList ds gs before) (hs : s.fn H (ds ++ gs) = { results := [.lit (.bool true)], args := ds, vars := gs }) (hb : Below W.heap.size W W') :
    s.post enc P f apart fresh false false W args (.bool true) W' := by
  have hlt : ∀ p ∈ before, p.block < W.heap.size := fun p hp => hW.lt p hp
  obtain ⟨p, q, hA, hV, hpq, hz, hn⟩ := id hW
  subst hpq
  have hV' := hb.trodVars hl hv hV
  refine ⟨ds, gs, p ++ q, [], p, q, hW, ?_, ?_, ?_, World.keptBut_mono (fun x hx => ⟨hx, ?_⟩) (hb.frame (· ∈ p ++ q)), fun h => by cases h⟩
  · rw [hs, hrt]
    exact trodAll_cons_mk (shut_bool hbt true) trodAll_mk0
  · rw [hs]
    exact trodAll_lives hl hpar hA (fun x hx => hb.same (hlt x (List.mem_append_left _ hx))) (fun x hx => by simpa using hlt x (List.mem_append_left _ hx))
  · rw [hs]
    exact hV'
  · rcases List.mem_append.1 hx with h | h
    · exact .inr (.inl h)
    · exact .inr (.inr h)
end
end Go.Fl
/-
  Arguments opened: a slice of integers, or of structs whose fields are integers, told by its length and its numbers.
-/
namespace Go.Fl
open Go.RowKit Go.ChangeShapes Go.WideShapes Go.Deep

/-- A slice of records of k integers each. -/
def Recs (w : World) (k : Nat) (v : Value) (n : Nat) (f : Nat → Nat → Int) : Prop :=
  ∃ a cap, v = .slice a n cap ∧ n ≤ cap ∧ cap ≤ maxLen ∧ (0 < n → ∃ g off, a = some ⟨g, off, none⟩ ∧ ∀ i j, i < n → j < k → w.cell? ⟨g, off + (i * k + j), none⟩ = some (.int .i64 (f i j)))
theorem cell_lt {w : World} {a : Addr} {v : Value} (h : w.cell? a = some v) : a.block < w.heap.size := by
  by_cases hn : a.block < w.heap.size
  · exact hn
  · have h0 : w.heap[a.block]? = none := Array.getElem?_eq_none (by omega)
    simp [World.cell?, h0] at h
section
variable {w w' : World} {k : Nat} {v : Value} {n : Nat} {f : Nat → Nat → Int}
theorem Recs.only (h : Recs w k v n f) (ho : Only [] w w') : Recs w' k v n f := by
  obtain ⟨a, cap, rfl, h1, h2, h3⟩ := h
  refine ⟨a, cap, rfl, h1, h2, fun hn => ?_⟩
  obtain ⟨g, off, rfl, hh⟩ := h3 hn
  refine ⟨g, off, rfl, fun i j hi hj => ?_⟩
  have h1 := hh i j hi hj
  exact (ho.cell (p := ⟨g, off + (i * k + j), none⟩) (cell_lt h1) (by simp)).trans h1
theorem Recs.shape (h : Recs w k v n f) : ∃ a cap, v = .slice a n cap ∧ n ≤ cap ∧ cap ≤ maxLen := by
  obtain ⟨a, cap, rfl, h1, h2, _⟩ := h
  exact ⟨a, cap, rfl, h1, h2⟩
theorem Recs.at_ (h : Recs w k v n f) {i : Nat} (hi : i < n) : ∃ g off cap, v = .slice (some ⟨g, off, none⟩) n cap ∧ n ≤ cap ∧ ∀ j, j < k → w.cell? ⟨g, off + (i * k + j), none⟩ = some (.int .i64 (f i j)) := by
  obtain ⟨a, cap, rfl, h1, h2, h3⟩ := h
  obtain ⟨g, off, rfl, hh⟩ := h3 (by omega)
  exact ⟨g, off, cap, rfl, h1, fun j hj => hh i j hi hj⟩
end

section
variable {H : Type} {enc : TypeId × Value → H} {P : Program} {w : World}
/-- Each cell of such a value is an integer. -/
def IntCells (enc : TypeId × Value → H) (P : Program) (w : World) (e : TypeId) (k : Nat) : Prop := ∀ fuel cs x, DataW.trod enc P w 0 (fun _ => true) true fuel e cs = some x → ∀ j, j < k → ∃ y, cs[j]? = some (.int .i64 y)
theorem intCells_one {e : TypeId} (he : P.underlying e = some (.int .i64)) : IntCells enc P w e 1 := fun fuel cs x h j hj => by
  obtain ⟨n, rfl, _, _⟩ := DataW.trod_int he h
  exact ⟨n, by cases j with | zero => rfl | succ j => omega⟩
theorem intCells_struct {e : TypeId} {fs : Array Field} (he : P.underlying e = some (.struct fs)) (hf : oneCellFields P fs = true) (hi : ∀ (j : Nat) (f : Field), fs[j]? = some f → P.underlying f.type = some (.int .i64)) : IntCells enc P w e fs.size := fun fuel cs x h j hj => by
  obtain ⟨xs, n, _, _, hlen, hxl, hat⟩ := DataW.trod_struct he h
  have hj' : fs[j]? = some fs[j] := Array.getElem?_eq_getElem hj
  obtain ⟨h1, h2⟩ := hone_of hf j _ hj'
  have h3 := hat j _ hj'
  rw [h1, h2] at h3
  have hx : xs[j]? = some (xs[j]'(by omega)) := List.getElem?_eq_getElem (by omega)
  obtain ⟨y, hy, _, _⟩ := DataW.trod_int (hi j _ hj') (h3.trans hx)
  refine ⟨y, ?_⟩
  have : (List.take 1 (List.drop j cs))[0]? = some (.int .i64 y) := by rw [hy]; rfl
  simpa using this
theorem open_recs {r : Reach} {b0 : Nat} {t e : TypeId} {k : Nat} {v : Value} {d : DataW H} {ps : List MemPlace} (ht : P.underlying t = some (.slice e)) (hk : P.cellsOf e = k) (hk0 : 0 < k) (he : IntCells enc P w e k)
    (hval : Value.okWide P w r b0 t v) (h : DataW.Trod enc P w 0 (fun _ => true) true t v d ps) : ∃ n f, Recs w k v n f := by
  obtain ⟨a, len, cap, rfl⟩ := okWide_slice ht hval
  obtain ⟨fuel, h⟩ := h
  rcases open_slice ht h with ⟨h0, _⟩ | ⟨a', len', cap', m, n, D, Pl, hcs, hb, hl, hm, hmm, hx, hi⟩
  · simp [Value.cells] at h0
    obtain ⟨rfl, rfl, rfl⟩ := h0
    exact ⟨0, fun _ _ => 0, none, 0, rfl, by simp, by simp, fun h => by omega⟩
  · simp [Value.cells] at hcs
    obtain ⟨rfl, rfl, rfl⟩ := hcs
    simp at hmm
    have hall : ∀ i j, i < len → j < k → ∃ y, w.cell? ((a'.add (i * k)).add j) = some (.int .i64 y) := fun i j hi1 hj => by
      obtain ⟨cs', hc, hd⟩ := hi i (by omega)
      rw [hk] at hc
      obtain ⟨_, _, hat⟩ := World.cells?_some hc
      obtain ⟨y, hy⟩ := he _ _ _ hd j hj
      exact ⟨y, (hat j hj).trans hy⟩
    refine ⟨len, fun i j => if hh : i < len ∧ j < k then (hall i j hh.1 hh.2).choose else 0, _, _, rfl, hl, hm, fun hn => ?_⟩
    obtain ⟨y, hy⟩ := hall 0 0 hn hk0
    have hsp : a'.spot = none := by
      have : w.cell? a' = some (.int .i64 y) := by simpa [Addr.add] using hy
      unfold World.cell? at this
      split at this
      · split at this
        · cases this
        · rename_i h; simpa using h
      · cases this
    obtain ⟨g, off, sp⟩ := a'
    simp only at hsp
    subst hsp
    refine ⟨g, off, rfl, fun i j hi1 hj => ?_⟩
    have hs := (hall i j hi1 hj).choose_spec
    simp only [hi1, hj, and_self, dif_pos]
    refine Eq.trans ?_ hs
    rw [Addr.add_lit, Addr.add_lit, Nat.add_assoc]
end
end Go.Fl
/-
  A struct whose fields are integers, by one closed check.
-/
namespace Go.Fl
open Go.RowKit Go.ChangeShapes Go.WideShapes Go.Deep
section
variable {H : Type} {enc : TypeId × Value → H} {P : Program} {w : World}
/-- An integer's field. -/
def intField (P : Program) (f : Field) : Bool := match P.underlying f.type with | some (.int .i64) => true | _ => false
theorem intCells_fields {e : TypeId} {fs : Array Field} (he : P.underlying e = some (.struct fs)) (hf : oneCellFields P fs = true) (hi : fs.all (intField P) = true) : IntCells enc P w e fs.size :=
  intCells_struct he hf fun j f hj => by
    have := (Array.all_eq_true_iff_forall_mem.1 hi) f (Array.mem_of_getElem? hj)
    unfold intField at this
    split at this
    · assumption
    · cases this
end
end Go.Fl
/-
  Arguments opened: a slice of texts or of integers, told by the list of what it holds.
-/
namespace Go.Fl
open Go.RowKit Go.ChangeShapes Go.WideShapes Go.Deep

/-- A slice, each of whose elements fills one cell. -/
def Row {α : Type} (f : α → Value) (w : World) (v : Value) (l : List α) : Prop :=
  ∃ a cap, v = .slice a l.length cap ∧ l.length ≤ cap ∧ cap ≤ maxLen ∧ (0 < l.length → ∃ g off, a = some ⟨g, off, none⟩ ∧ g < w.heap.size ∧ ∀ i (h : i < l.length), w.cell? ⟨g, off + i, none⟩ = some (f l[i]))
section
variable {α : Type} {f : α → Value} {w w' : World} {v : Value} {l : List α}
theorem Row.only (h : Row f w v l) (ho : Only [] w w') : Row f w' v l := by
  obtain ⟨a, cap, rfl, h1, h2, h3⟩ := h
  refine ⟨a, cap, rfl, h1, h2, fun hn => ?_⟩
  obtain ⟨g, off, rfl, hg, hh⟩ := h3 hn
  exact ⟨g, off, rfl, Nat.lt_of_lt_of_le hg ho.size, fun i hi => (ho.cell (p := ⟨g, off + i, none⟩) hg (by simp)).trans (hh i hi)⟩
end
section
variable {H : Type} {enc : TypeId × Value → H} {P : Program} {w : World}
theorem list_of {α : Type} {p : Nat → α → Prop} : ∀ n, (∀ i, i < n → ∃ a, p i a) → ∃ l : List α, l.length = n ∧ ∀ i (h : i < l.length), p i l[i]
  | 0, _ => ⟨[], rfl, fun i h => by simp at h⟩
  | n + 1, h => by
    obtain ⟨l, hl, hp⟩ := list_of n fun i hi => h i (by omega)
    obtain ⟨a, ha⟩ := h n (by omega)
    refine ⟨l ++ [a], by simp [hl], fun i hi => ?_⟩
    by_cases h1 : i < l.length
    · rw [List.getElem_append_left h1]; exact hp i h1
    · have : i = l.length := by simp at hi; omega
      subst this
      simp [hl, ha]
theorem open_row {α : Type} {f : α → Value} {p : α → Prop} {r : Reach} {b0 : Nat} {t e : TypeId} {v : Value} {d : DataW H} {ps : List MemPlace} (ht : P.underlying t = some (.slice e)) (hk : P.cellsOf e = 1)
    (he : ∀ fuel cs x, DataW.trod enc P w 0 (fun _ => true) true fuel e cs = some x → ∃ y, cs = [f y] ∧ p y)
    (hval : Value.okWide P w r b0 t v) (h : DataW.Trod enc P w 0 (fun _ => true) true t v d ps) : ∃ l, Row f w v l ∧ ∀ i (h : i < l.length), p l[i] := by
  obtain ⟨a, len, cap, rfl⟩ := okWide_slice ht hval
  obtain ⟨fuel, h⟩ := h
  rcases open_slice ht h with ⟨h0, _⟩ | ⟨a', len', cap', m, n, D, Pl, hcs, hb, hl, hm, hmm, hx, hi⟩
  · simp [Value.cells] at h0
    obtain ⟨rfl, rfl, rfl⟩ := h0
    exact ⟨[], ⟨none, 0, rfl, by simp, by simp, fun h => by simp at h⟩, fun i h => by simp at h⟩
  · simp [Value.cells] at hcs
    obtain ⟨rfl, rfl, rfl⟩ := hcs
    simp at hmm
    have hall : ∀ i, i < len → ∃ y, w.cell? (a'.add i) = some (f y) ∧ p y := fun i hi1 => by
      obtain ⟨cs', hc, hd⟩ := hi i (by omega)
      rw [hk, Nat.mul_one] at hc
      obtain ⟨y, rfl, hy⟩ := he _ _ _ hd
      have := (World.cells?_some hc).2.2 0 (by omega)
      exact ⟨y, by simpa [Addr.add] using this, hy⟩
    obtain ⟨l, hll, hp⟩ := list_of (p := fun i y => w.cell? (a'.add i) = some (f y) ∧ p y) len hall
    subst hll
    refine ⟨l, ⟨_, _, rfl, hl, hm, fun hn => ?_⟩, fun i hi => (hp i hi).2⟩
    have h0 := (hp 0 hn).1
    have hsp : a'.spot = none := by
      have : w.cell? a' = some (f l[0]) := by simpa [Addr.add] using h0
      unfold World.cell? at this
      split at this
      · split at this
        · cases this
        · rename_i h; simpa using h
      · cases this
    obtain ⟨g, off, sp⟩ := a'
    simp only at hsp
    subst hsp
    refine ⟨g, off, rfl, cell_lt h0, fun i hi1 => ?_⟩
    refine Eq.trans ?_ (hp i hi1).1
    rw [Addr.add_lit]
theorem open_texts {r : Reach} {b0 : Nat} {t e : TypeId} {v : Value} {d : DataW H} {ps : List MemPlace} (ht : P.underlying t = some (.slice e)) (hk : P.cellsOf e = 1) (he : P.underlying e = some .string)
    (hval : Value.okWide P w r b0 t v) (h : DataW.Trod enc P w 0 (fun _ => true) true t v d ps) : ∃ l : List (List UInt8), Row (fun s => .string ⟨s.toArray⟩) w v l ∧ ∀ i (h : i < l.length), l[i].length ≤ maxLen :=
  open_row (f := fun s : List UInt8 => .string ⟨s.toArray⟩) (p := fun s => s.length ≤ maxLen) ht hk (fun fuel cs x hd => by
    obtain ⟨s, h1, _, h3⟩ := DataW.trod_string he hd
    exact ⟨s.data.toList, h1, h3⟩) hval h
theorem open_i64s {r : Reach} {b0 : Nat} {t e : TypeId} {v : Value} {d : DataW H} {ps : List MemPlace} (ht : P.underlying t = some (.slice e)) (hk : P.cellsOf e = 1) (he : P.underlying e = some (.int .i64))
    (hval : Value.okWide P w r b0 t v) (h : DataW.Trod enc P w 0 (fun _ => true) true t v d ps) : ∃ l : List Int, Row (fun s => .int .i64 s) w v l ∧ ∀ i (h : i < l.length), (Lit.int .i64 l[i]).wf = true :=
  open_row (f := fun s : Int => .int .i64 s) (p := fun s => (Lit.int .i64 s).wf = true) ht hk (fun fuel cs x hd => by
    obtain ⟨n, h1, _, h3⟩ := DataW.trod_int he hd
    exact ⟨n, h1, h3⟩) hval h
end
/-- append of such a slice. -/
theorem run_append_row {α : Type} {f : α → Value} {P : Program} {w : World} (t ty e : TypeId) (i : TypeInfo) (z : Value) (bytes : Nat) (ht : P.underlying t = some (.slice e)) (hi : P.info? e = some i) (hz : i.zero = some z)
    (hsize : i.size = 1) (hby : i.bytes = bytes) (hzs : z.cells.size = 1)
    {v : Value} {n : Nat} {xs : List Value} (hown : Sl w e 1 v n xs) {vx : Value} {l : List α} (hx : Row f w vx l) (h1 : ∀ u, (f u).oneCell' = true)
    (h63 : n + l.length ≤ maxLen) (hbytes : (n + l.length) * bytes ≤ 140737488355328) :
    ∃ v' w', (Builtin.append_ #[t, t] ty #[v, vx]).run P w = .ok v' w' ∧ Sl w' e 1 v' (n + l.length) (xs ++ l.map f) ∧ w.grownBy w' v.ownBlock ∧
      (v'.ownBlock = v.ownBlock ∨ v'.ownBlock = some w.heap.size) := by
  obtain ⟨ax, cx, rfl, hc, hm, hcell⟩ := hx
  rcases Nat.eq_zero_or_pos l.length with h0 | h0
  · obtain rfl : l = [] := List.length_eq_zero_iff.1 h0
    cases ax with
    | none =>
      refine ⟨v, w, ?_, by simpa using hown, ⟨rfl, rfl, rfl, Nat.le_refl _, fun _ _ _ => rfl⟩, .inl rfl⟩
      obtain ⟨a, c, rfl, hc, ha⟩ := hown.shape
      cases a <;> simp [Builtin.append_, run_underlying ht, sizeOf, typeInfo, hi, Builtin.lenOf, hc, Builtin.firstCells, storeCells]
    | some ad => exact run_append_sl t ty e i z 1 bytes ht hi hz hsize hby hzs (by omega) hown ad 0 cx [] rfl (fun j u hu => by simp at hu) (fun u hu => by simp at hu) h63 hbytes
  · obtain ⟨g, off, rfl, hg, hcc⟩ := hcell h0
    exact run_append_sl t ty e i z 1 bytes ht hi hz hsize hby hzs (by omega) hown ⟨g, off, none⟩ l.length cx (l.map f) (by simp) (fun j u hu => by
      rw [List.getElem?_map] at hu
      by_cases hj : j < l.length
      · rw [List.getElem?_eq_getElem hj] at hu
        injection hu with hu
        rw [Addr.add_lit, hcc j hj, hu]
      · rw [List.getElem?_eq_none (by omega)] at hu; cases hu) (fun u hu => by obtain ⟨y, _, rfl⟩ := List.mem_map.1 hu; exact h1 y) h63 hbytes
theorem wpList_append_row {α : Type} {f : α → Value} {P : Program} {w : World} {ops : Array Oper} {rest : List Oper} {o : Oper} {a : Act} {Q : Exit → Act → World → Prop} (hgd : o.guard = none) (s x : Operand) (t : TypeId)
    (ho : o.op = .call { callee := .builtin .append, args := #[s, x], argTypes := #[t, t] })
    (e : TypeId) (i : TypeInfo) (z : Value) (bytes : Nat) (ht : P.underlying t = some (.slice e)) (hi : P.info? e = some i) (hz : i.zero = some z)
    (hsize : i.size = 1) (hby : i.bytes = bytes) (hzs : z.cells.size = 1)
    {v : Value} {n : Nat} {xs : List Value} (hs : a.eval s = v) (hown : Sl w e 1 v n xs)
    {vx : Value} {l : List α} (hx : a.eval x = vx) (hxs : Row f w vx l) (h1 : ∀ u, (f u).oneCell' = true)
    (h63 : n + l.length ≤ maxLen) (hbytes : (n + l.length) * bytes ≤ 140737488355328)
    (h : ∀ v' w', Sl w' e 1 v' (n + l.length) (xs ++ l.map f) → w.grownBy w' v.ownBlock → (v'.ownBlock = v.ownBlock ∨ v'.ownBlock = some w.heap.size) → wpList P ops Q rest (a.put o.dst v') w') : wpList P ops Q (o :: rest) a w := by
  refine wpList_plain hgd fun K hK => ?_
  obtain ⟨v', w', hr, h2, h3, h4⟩ := run_append_row (P := P) t o.type e i z bytes ht hi hz hsize hby hzs hown hxs h1 h63 hbytes
  unfold Oper.wp execOp
  simp only [ho, resolve, invoke, builtin, Sem.run_bind, Sem.run_pure, Result.andThen_ok, List.map_toArray, List.map_cons, List.map_nil, hs, hx, hr]
  exact hK _ _ (h v' w' h2 h3 h4)
end Go.Fl
