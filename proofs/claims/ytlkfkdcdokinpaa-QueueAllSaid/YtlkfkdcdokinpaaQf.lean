import Derived.Test.YtlkfkdcdokinpaaQe
import Derived.Maps.OwnOps
namespace Go.Proofs.Ytlkfkdcdokinpaa
open Go.RowKit Go.Fl

/-- A set of numbers, as a map's entries. -/
def setM (ks : List Int) : List (Int × Value) := ks.map fun k => (k, .agg #[])
theorem setM_has (ks : List Int) (x : Int) : mapHas (setM ks) x = ks.contains x := by
  unfold mapHas setM
  rw [List.any_map, List.contains_eq_any_beq]
  congr 1
  funext k
  show (k == x) = (x == k)
  rw [Bool.eq_iff_iff, beq_iff_eq, beq_iff_eq]; exact eq_comm
theorem setM_get (ks : List Int) (x : Int) : mapGet (setM ks) x (.agg #[]) = .agg #[] := by
  unfold mapGet setM
  cases h : (ks.map fun k => ((k, .agg #[]) : Int × Value)).find? fun p => p.1 == x with
  | none => rfl
  | some p =>
    have := List.mem_of_find?_eq_some h
    simp only [List.mem_map] at this
    obtain ⟨k, _, rfl⟩ := this
    rfl
theorem setM_put {ks : List Int} {x : Int} (h : ks.contains x = false) : mapPut (setM ks) x (.agg #[]) = setM (ks ++ [x]) := by
  induction ks with
  | nil => rfl
  | cons k ks ih =>
    rw [List.contains_cons, Bool.or_eq_false_iff] at h
    have hk : (k == x) = false := by have := h.1; simp at this ⊢; exact fun e => this e.symm
    show mapPut ((k, .agg #[]) :: setM ks) x (.agg #[]) = _
    rw [mapPut]
    simp only [hk, Bool.false_eq_true, if_false]
    rw [ih h.2]; rfl
theorem setM_del (ks : List Int) (x : Int) : mapDel (setM ks) x = setM (ks.erase x) := by
  induction ks with
  | nil => rfl
  | cons k ks ih =>
    show List.eraseP _ ((k, .agg #[]) :: setM ks) = _
    rw [List.eraseP_cons, List.erase_cons]
    by_cases hk : k = x
    · simp [hk]
    · have h1 : (k == x) = false := by simpa using hk
      simp only [h1, cond_false, Bool.false_eq_true, if_false]
      show (k, .agg #[]) :: mapDel (setM ks) x = _
      rw [ih]; rfl

section
variable {P : Program} {w : World} {ops : Array Oper} {rest : List Oper} {o : Oper} {a : Act} {Q : Exit → Act → World → Prop} {b : Nat} {ks : List Int}
theorem wpList_lookup_set (hg : o.guard = none) (mo x : Operand) (t : TypeId) (hop : o.op = Op.lookup t mo x true) (kt e : TypeId) (ht : P.underlying t = some (.map kt e)) (hk : P.underlying kt = some (.int .i64)) (hz : (P.info? e).bind (·.zero) = some (.agg #[]))
    (hm : a.eval mo = .map (some b)) (h : IMap w b .i64 (setM ks)) {y : Int} (hx : a.eval x = .int .i64 y)
    (hK : wpList P ops Q rest (a.put o.dst (.tuple #[.agg #[], .bool (ks.contains y)])) w) : wpList P ops Q (o :: rest) a w :=
  wpList_lookup_ok hg mo x t hop kt e (.agg #[]) ht hk hz hm h hx (by rw [setM_get, setM_has]; exact hK)
end

def idsOf (l : List Item) : List Int := l.map (·.1)

structure QOk (w : World) (q : Nat) (cap bytes : Int) (held line : List Item) (l lv : Value) (f mb : Nat) (ks : List Int) : Prop where
  okh : Held cap bytes held
  okl : Sized line
  cap0 : 1 ≤ cap
  byt0 : 1 ≤ bytes
  lenl : line.length ≤ 1024
  B : QB w q cap bytes (sum held) l f held.length lv (.map (some mb))
  R : RingIs w l f held.length held
  S : Sl w 38 2 lv line.length (cells line)
  sep : ∀ g, l.ownBlock = some g → lv.ownBlock ≠ some g
  M : IMap w mb .i64 (setM ks)
  ids : ks.Perm (idsOf (held ++ line))
/-- The blocks of a queue. -/
def qblocks (q mb : Nat) (l lv : Value) : List Nat := q :: mb :: (l.ownBlock.toList ++ lv.ownBlock.toList)
/-- A queue in a world, over blocks of S. -/
def QIs (w : World) (q : Nat) (S : List Nat) (cap bytes : Int) (held line : List Item) : Prop :=
  ∃ l lv f mb ks, QOk w q cap bytes held line l lv f mb ks ∧ ∀ g ∈ qblocks q mb l lv, g ∈ S
/-- Behind a step: the queue over old blocks or new ones; nothing else has turned. -/
def QStep (w w' : World) (q : Nat) (S : List Nat) (cap bytes : Int) (held line : List Item) : Prop :=
  ∃ S', QIs w' q S' cap bytes held line ∧ Only S w w' ∧ ∀ g ∈ S', g ∈ S ∨ w.heap.size ≤ g
theorem QOk.only {w w' : World} {q : Nat} {cap bytes : Int} {held line : List Item} {l lv : Value} {f mb : Nat} {ks : List Int} {T : List Nat} (h : QOk w q cap bytes held line l lv f mb ks) (ho : Only T w w') (hT : ∀ g ∈ qblocks q mb l lv, g ∉ T) : QOk w' q cap bytes held line l lv f mb ks :=
  ⟨h.okh, h.okl, h.cap0, h.byt0, h.lenl, h.B.only ho (hT q (by simp [qblocks])), h.R.only ho (fun g hg => hT g (by simp [qblocks, hg])), h.S.only ho (fun g hg => hT g (by simp [qblocks, hg])), h.sep, h.M.only ho (hT mb (by simp [qblocks])), h.ids⟩
theorem QIs.only {w w' : World} {q : Nat} {S T : List Nat} {cap bytes : Int} {held line : List Item} (h : QIs w q S cap bytes held line) (ho : Only T w w') (hT : ∀ g ∈ S, g ∉ T) : QIs w' q S cap bytes held line := by
  obtain ⟨l, lv, f, mb, ks, h1, h2⟩ := h
  exact ⟨l, lv, f, mb, ks, h1.only ho fun g hg => hT g (h2 g hg), h2⟩
theorem QIs.same {w w' : World} {q : Nat} {S : List Nat} {cap bytes : Int} {held line : List Item} (h : QIs w q S cap bytes held line) (ho : Only [] w w') : QStep w w' q S cap bytes held line :=
  ⟨S, h.only ho (by simp), ho.mono (by simp), fun g hg => .inl hg⟩

set_option maxHeartbeats 400000 in
theorem there_ok {q : Nat} {cap bytes used n : Int} {line ids l : Value} {f : Int} (w : World) (hB : QB w q cap bytes used l f n line ids) (hc : 1 ≤ cap) :
    Calls Try.prog 23 #[.pointer (some ⟨q, 0, none⟩)] w fun e w' => e = .returned (.bool true) ∧ w = w' := by
  have h0 : w.cell? ⟨q, 0, none⟩ = some (.int .i64 cap) := hB.cell 0
  have hc' : 0 < cap := by omega
  clear hB hc
  go_enter Try.func23, Try.ntmps23
  go_wp2
  go_ret
  exact ⟨rfl, rfl⟩

/-- What Put does. -/
def putM (cap bytes : Int) (held line : List Item) (id size : Int) : (Bool × Int) × List Item × List Item :=
  if size < 0 then ((false, 1), held, line)
  else if bytes < size then ((false, 3), held, line)
  else if (idsOf (held ++ line)).contains id then ((false, 7), held, line)
  else if 1024 ≤ line.length then ((false, 9), held, line)
  else if line.isEmpty && hasRoom cap bytes held size then ((true, 0), held ++ [(id, size)], line)
  else ((false, 0), held, line ++ [(id, size)])
def bi (r : Bool × Int) : Value := .tuple #[.bool r.1, .int .i64 r.2]

theorem perm_contains {ks is : List Int} (h : ks.Perm is) (x : Int) : ks.contains x = is.contains x := by
  rw [Bool.eq_iff_iff]; simp [h.mem_iff]

set_option maxRecDepth 100000 in
set_option maxHeartbeats 800000 in
theorem put_err {q : Nat} {cap bytes : Int} {held line : List Item} {l lv : Value} {f mb : Nat} {ks : List Int} (id size : Int) (w : World) (h : QOk w q cap bytes held line l lv f mb ks)
    (hc : size < 0 ∨ (¬ size < 0 ∧ bytes < size) ∨ (¬ size < 0 ∧ ¬ bytes < size ∧ ks.contains id = true) ∨ (¬ size < 0 ∧ ¬ bytes < size ∧ ks.contains id = false ∧ 1024 ≤ line.length)) :
    Calls Try.prog 8 #[.pointer (some ⟨q, 0, none⟩), .int .i64 id, .int .i64 size] w fun e w' => e = .returned (bi (putM cap bytes held line id size).1) ∧ Only [] w w' := by
  have hcon := perm_contains h.ids id
  have hp : ∃ r, (putM cap bytes held line id size).1 = (false, r) ∧ ((size < 0 ∧ r = 1) ∨ (¬ size < 0 ∧ bytes < size ∧ r = 3) ∨ (¬ size < 0 ∧ ¬ bytes < size ∧ ks.contains id = true ∧ r = 7) ∨ (¬ size < 0 ∧ ¬ bytes < size ∧ ks.contains id = false ∧ 1024 ≤ line.length ∧ r = 9)) := by
    unfold putM
    rw [← hcon]
    rcases hc with h1 | ⟨h1, h2⟩ | ⟨h1, h2, h3⟩ | ⟨h1, h2, h3, h4⟩
    · exact ⟨1, by rw [if_pos h1], .inl ⟨h1, rfl⟩⟩
    · exact ⟨3, by rw [if_neg h1, if_pos h2], .inr (.inl ⟨h1, h2, rfl⟩)⟩
    · exact ⟨7, by rw [if_neg h1, if_neg h2, if_pos h3], .inr (.inr (.inl ⟨h1, h2, h3, rfl⟩))⟩
    · exact ⟨9, by rw [if_neg h1, if_neg h2, if_neg (by rw [h3]; simp), if_pos h4], .inr (.inr (.inr ⟨h1, h2, h3, h4, rfl⟩))⟩
  obtain ⟨r, hr, hcs⟩ := hp
  rw [hr]
  obtain ⟨a, c, hlv, _, _⟩ := h.S.shape
  subst hlv
  have HC := Lib.hid (there_ok w h.B h.cap0)
  obtain ⟨hcell, hfz, hlt⟩ := h.B.facts
  have HM := Lib.hid h.M
  clear h hr hc hcon
  simp only [List.contains_iff_mem, ← Bool.not_eq_true] at hcs
  rcases hcs with ⟨h1, rfl⟩ | ⟨h1, h2, rfl⟩ | ⟨h1, h2, h3, rfl⟩ | ⟨h1, h2, h3, h4, rfl⟩
  all_goals
    go_enter Try.func8, Try.ntmps8
    go_wp2_with fail
    refine HC.out.mono ?_
    rintro e w1 ⟨rfl, rfl⟩
    go_wp2_with (at_lookup; refine wpList_lookup_set rfl (.tmp 22) (.tmp 23) 55 rfl 2 60 Try.underlying55 Try.underlying2 (by kernel_rfl) rfl HM.out rfl ?_)
  all_goals go_ret2
  all_goals exact ⟨rfl, by (repeat (first | with_reducible exact Only.refl _ _ | with_reducible exact Only.refl [] w | with_reducible refine Only.drew ?_ | with_reducible refine Only.drewN ?_ _ | with_reducible refine Only.alloc ?_ _ | ((with_reducible refine Only.setCell ?_ ?_ _); rotate_left; (focus (first | (left; simp; done) | (right; simp; done) | (right; simp; omega) | (right; omega))))))⟩
end Go.Proofs.Ytlkfkdcdokinpaa
