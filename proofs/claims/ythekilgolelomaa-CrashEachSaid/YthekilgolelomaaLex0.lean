/-
  A region that draws its order, walked in the order of the text: what one order yields every order yields, where the operations that write are ordered among each other and among the loads. Conditions: 'seqOK', a closed Bool over the region; the values that arithmetic takes are plain ('plainAll', asked at the end of the walk).
-/
import Derived.Orders
import Derived.Tactics
import Derived.Laws.Sem
import Derived.Laws.FloatArith
set_option linter.unusedSimpArgs false
set_option linter.unusedVariables false
namespace Go.Lex

/-! ### Worlds that only grow -/
def Ext (w w2 : World) : Prop := ∀ i, i < w.heap.size → w2.heap[i]? = w.heap[i]?
theorem Ext.refl (w : World) : Ext w w := fun _ _ => rfl
theorem Ext.size {w w2 : World} (h : Ext w w2) : w.heap.size ≤ w2.heap.size := by
  rcases Nat.lt_or_ge w2.heap.size w.heap.size with h0 | h0
  · have h1 := (h w2.heap.size h0).symm
    rw [Array.getElem?_eq_none (Nat.le_refl _), Array.getElem?_eq_getElem h0] at h1
    cases h1
  · exact h0
theorem Ext.trans {a b c : World} (h : Ext a b) (k : Ext b c) : Ext a c := fun i hi => (k i (Nat.lt_of_lt_of_le hi h.size)).trans (h i hi)
theorem Ext.block {w w2 : World} (h : Ext w w2) {b : Nat} {o : Obj} (ho : w.heap[b]? = some o) : w2.heap[b]? = some o :=
  (h b (Array.getElem?_eq_some_iff.1 ho).1).trans ho
theorem Ext.cell {w w2 : World} (h : Ext w w2) {a : Addr} {v : Value} (hv : w.cell? a = some v) : w2.cell? a = some v := by
  unfold World.cell? at *
  cases ho : w.heap[a.block]? with
  | none => rw [ho] at hv; cases hv
  | some o => rw [ho] at hv; rw [h.block ho]; exact hv

/-! ### What a piece of the model does to the world -/
section
variable {P : Program}
/-- one outcome in every world, and the world stays -/
def Flat (P : Program) {α : Type} (s : Sem α) : Prop := ∀ w x w', s.run P w = .ok x w' → w' = w ∧ ∀ w2, s.run P w2 = .ok x w2
/-- one outcome in every world that grew out of this one, and the world stays -/
def Calm (P : Program) {α : Type} (s : Sem α) : Prop := ∀ w x w', s.run P w = .ok x w' → w' = w ∧ ∀ w2, Ext w w2 → s.run P w2 = .ok x w2
/-- the world at most grows -/
def Grows (P : Program) {α : Type} (s : Sem α) : Prop := ∀ w x w', s.run P w = .ok x w' → Ext w w'
def Dead (P : Program) {α : Type} (s : Sem α) : Prop := ∀ w x w', s.run P w ≠ .ok x w'

variable {α β : Type}
theorem Flat.calm {s : Sem α} (h : Flat P s) : Calm P s := fun w x w' hr => ⟨(h w x w' hr).1, fun w2 _ => (h w x w' hr).2 w2⟩
theorem Calm.grows {s : Sem α} (h : Calm P s) : Grows P s := fun w x w' hr => by rw [(h w x w' hr).1]; exact Ext.refl w
theorem Dead.flat {s : Sem α} (h : Dead P s) : Flat P s := fun w x w' hr => absurd hr (h w x w')
theorem Dead.grows {s : Sem α} (h : Dead P s) : Grows P s := fun w x w' hr => absurd hr (h w x w')
theorem Flat.pure (a : α) : Flat P (Pure.pure a : Sem α) := fun w x w' hr => by
  simp only [Sem.run_pure, Result.ok.injEq] at hr
  obtain ⟨rfl, rfl⟩ := hr
  exact ⟨rfl, fun w2 => by simp⟩
theorem bind_ok {s : Sem α} {f : α → Sem β} {w : World} {x : β} {w' : World} (h : (s >>= f).run P w = .ok x w') : ∃ a w1, s.run P w = .ok a w1 ∧ (f a).run P w1 = .ok x w' := by
  rw [Sem.run_bind] at h
  cases hs : s.run P w with
  | ok a w1 => rw [hs] at h; exact ⟨a, w1, rfl, h⟩
  | halt e w1 => rw [hs] at h; cases h
theorem bind_run {s : Sem α} {f : α → Sem β} {w : World} {a : α} {w1 : World} (h : s.run P w = .ok a w1) : (s >>= f).run P w = (f a).run P w1 := by
  rw [Sem.run_bind, h]; rfl
theorem Flat.bind {s : Sem α} {f : α → Sem β} (h : Flat P s) (k : ∀ a, Flat P (f a)) : Flat P (s >>= f) := fun w x w' hr => by
  obtain ⟨a, w1, h1, h2⟩ := bind_ok hr
  obtain ⟨rfl, h3⟩ := h _ _ _ h1
  obtain ⟨rfl, h4⟩ := k a _ _ _ h2
  exact ⟨rfl, fun w2 => (bind_run (h3 w2)).trans (h4 w2)⟩
theorem Calm.bind {s : Sem α} {f : α → Sem β} (h : Calm P s) (k : ∀ a, Calm P (f a)) : Calm P (s >>= f) := fun w x w' hr => by
  obtain ⟨a, w1, h1, h2⟩ := bind_ok hr
  obtain ⟨rfl, h3⟩ := h _ _ _ h1
  obtain ⟨rfl, h4⟩ := k a _ _ _ h2
  exact ⟨rfl, fun w2 he => (bind_run (h3 w2 he)).trans (h4 w2 he)⟩
theorem Grows.bind {s : Sem α} {f : α → Sem β} (h : Grows P s) (k : ∀ a, Grows P (f a)) : Grows P (s >>= f) := fun w x w' hr => by
  obtain ⟨a, w1, h1, h2⟩ := bind_ok hr
  exact (h _ _ _ h1).trans (k a _ _ _ h2)
theorem Dead.bind {s : Sem α} {f : α → Sem β} (h : Dead P s) : Dead P (s >>= f) := fun w x w' hr => by
  obtain ⟨a, w1, h1, _⟩ := bind_ok hr
  exact h _ _ _ h1
theorem Dead.bind' {s : Sem α} {f : α → Sem β} (k : ∀ a, Dead P (f a)) : Dead P (s >>= f) := fun w x w' hr => by
  obtain ⟨a, w1, _, h2⟩ := bind_ok hr
  exact k a _ _ _ h2
theorem Dead.halt (h : Halt) : Dead P (.halt h : Sem α) := fun w x w' hr => by simp [Sem.run] at hr
theorem dead_stuck (s : String) : Dead P (stuck s : Sem α) := Dead.halt _
theorem dead_unsupported (u : Unsupported) : Dead P (unsupported u : Sem α) := Dead.halt _
theorem dead_goPanic (v : Value) : Dead P (goPanic v : Sem α) := Dead.halt _
theorem dead_runtimePanic (e : RuntimeError) : Dead P (runtimePanic e : Sem α) := by
  unfold runtimePanic
  refine Dead.bind' fun p => ?_
  cases e
  all_goals first
    | exact dead_goPanic _
    | exact Dead.bind' fun _ => dead_goPanic _
    | exact Dead.bind' fun _ => Dead.bind' fun _ => dead_goPanic _
theorem dead_boundsPanic (k : IntKind) (x y : Int) (c : BoundsCode) : Dead P (boundsPanic k x y c : Sem α) := by
  unfold boundsPanic
  dsimp only
  split
  · exact Dead.bind' fun _ => dead_runtimePanic _
  · exact Dead.bind' fun _ => dead_runtimePanic _
theorem flat_program : Flat P program := fun w x w' hr => by
  simp only [program, Sem.run, Result.ok.injEq] at hr
  obtain ⟨rfl, rfl⟩ := hr
  exact ⟨rfl, fun w2 => rfl⟩
theorem flat_mark (m : Mark) : Flat P (mark m) := fun w x w' hr => by
  simp only [mark, Sem.run, Result.ok.injEq] at hr
  obtain ⟨_, rfl⟩ := hr
  exact ⟨rfl, fun w2 => rfl⟩
theorem flat_typeInfo (t : TypeId) : Flat P (typeInfo t) := flat_program.bind fun p => by
  split
  · exact Flat.pure _
  · exact (dead_stuck _).flat
theorem flat_underlying (t : TypeId) : Flat P (underlying t) := flat_program.bind fun p => by
  split
  · exact Flat.pure _
  · exact (dead_stuck _).flat
theorem flat_zeroValue (t : TypeId) : Flat P (zeroValue t) := (flat_typeInfo t).bind fun i => by
  split
  · exact Flat.pure _
  · exact (dead_unsupported _).flat
theorem flat_sizeOf (t : TypeId) : Flat P (sizeOf t) := (flat_typeInfo t).bind fun _ => Flat.pure _
theorem flat_isAgg (t : TypeId) : Flat P (isAgg t) := (flat_underlying t).bind fun i => by
  split
  · exact Flat.pure _
  · exact Flat.pure _
  · exact Flat.pure _
theorem flat_asBool (v : Value) : Flat P (asBool v) := by
  unfold asBool; split
  · exact Flat.pure _
  · exact (dead_stuck _).flat
theorem flat_asIntOf (v : Value) : Flat P (asIntOf v) := by
  unfold asIntOf; split
  · exact Flat.pure _
  · exact (dead_unsupported _).flat
  · exact (dead_stuck _).flat
theorem flat_asInt (v : Value) : Flat P (asInt v) := (flat_asIntOf v).bind fun _ => Flat.pure _
theorem flat_asAgg (v : Value) : Flat P (asAgg v) := by
  unfold asAgg; split
  · exact Flat.pure _
  · exact (dead_stuck _).flat
theorem flat_asAddr (v : Value) : Flat P (asAddr v) := by
  unfold asAddr; split
  · exact Flat.pure _
  · exact (dead_runtimePanic _).flat
  · exact (dead_stuck _).flat
theorem flat_sureAddr (v : Value) : Flat P (Instr.sureAddr v) := by
  unfold Instr.sureAddr; split
  · exact Flat.pure _
  · exact (dead_stuck _).flat
theorem flat_part (t : TypeId) (cs : Array Value) (off : Nat) : Flat P (part t cs off) := (flat_isAgg t).bind fun b => by
  split
  · exact (flat_sizeOf t).bind fun _ => Flat.pure _
  · split
    · exact Flat.pure _
    · exact (dead_stuck _).flat

/-! ### The operations -/
theorem flat_sliceBound (x : Value) (y : Nat) (c : BoundsCode) : Flat P (Instr.sliceBound x y c) := (flat_asIntOf x).bind fun ki => by
  obtain ⟨k, i⟩ := ki
  dsimp only
  split
  · exact Flat.pure _
  · exact (dead_boundsPanic _ _ _ _).flat
theorem flat_sliceBounds (b : Bool) (len cap : Nat) (lo hi mx : Option Value) : Flat P (Instr.sliceBounds b len cap lo hi mx) := by
  unfold Instr.sliceBounds
  cases lo <;> cases hi <;> cases mx <;> dsimp only <;> repeat (first | exact Flat.pure _ | exact flat_sliceBound _ _ _ | exact (dead_stuck _).flat | exact ((dead_stuck _).bind).flat | refine Flat.bind ?_ fun _ => ?_)
theorem flat_slice (t : TypeId) (x : Value) (lo hi mx : Option Value) : Flat P (Instr.slice t x lo hi mx) := by
  unfold Instr.slice
  refine (flat_underlying t).bind fun u => ?_
  split
  · split
    · exact ((dead_stuck _).bind).flat
    · exact (flat_sliceBounds _ _ _ _ _ _).bind fun ⟨_, _, _⟩ => Flat.pure _
  · exact (flat_sliceBounds _ _ _ _ _ _).bind fun ⟨_, _, _⟩ => (flat_sizeOf _).bind fun _ => Flat.pure _
  · refine (flat_asAddr _).bind fun a => (flat_underlying _).bind fun u => ?_
    split
    · exact (flat_sliceBounds _ _ _ _ _ _).bind fun ⟨_, _, _⟩ => (flat_sizeOf _).bind fun _ => Flat.pure _
    · exact (dead_stuck _).flat
  · exact (dead_stuck _).flat
theorem flat_sliceAt (t : TypeId) (x : Value) (lo hi mx : Option Value) : Flat P (Instr.sliceAt t x lo hi mx) := by
  unfold Instr.sliceAt
  refine (flat_underlying t).bind fun u => ?_
  split
  · exact (flat_sureAddr _).bind fun a => (flat_sliceBounds _ _ _ _ _ _).bind fun ⟨_, _, _⟩ => (flat_sizeOf _).bind fun _ => Flat.pure _
  · exact flat_slice _ _ _ _ _
theorem flat_indexAt (t : TypeId) (x i : Value) : Flat P (Instr.indexAt t x i) := by
  unfold Instr.indexAt
  dsimp only
  repeat (first
    | exact Flat.pure _ | exact (dead_stuck _).flat | exact (dead_unsupported _).flat | exact (dead_boundsPanic _ _ _ _).flat
    | exact flat_asIntOf _ | exact flat_underlying _ | exact flat_sureAddr _ | exact flat_sizeOf _
    | refine Flat.bind ?_ fun _ => ?_
    | split)
theorem flat_index (t : TypeId) (x i : Value) : Flat P (Instr.index t x i) := by
  unfold Instr.index
  refine (flat_asIntOf _).bind fun ⟨k, i⟩ => ?_
  refine (flat_underlying t).bind fun u => ?_
  split
  · split
    · exact (flat_sizeOf _).bind fun _ => flat_part _ _ _
    · exact (dead_boundsPanic _ _ _ _).flat
  · split
    · exact Flat.pure _
    · exact (dead_boundsPanic _ _ _ _).flat
  · exact (dead_stuck _).flat
theorem flat_field (t : TypeId) (x : Value) (i : Nat) : Flat P (Instr.field t x i) := by
  unfold Instr.field
  refine (flat_underlying t).bind fun u => ?_
  split
  · split
    · exact (flat_asAgg _).bind fun _ => flat_part _ _ _
    · exact (dead_stuck _).flat
  · exact (dead_stuck _).flat
theorem flat_extract (x : Value) (i : Nat) : Flat P (Instr.extract x i) := by
  unfold Instr.extract
  split
  · split
    · exact Flat.pure _
    · exact (dead_stuck _).flat
  · exact (dead_stuck _).flat
/-- a field of a struct type whose cells are not none -/
def fieldSolid (P : Program) (s : TypeId) (f : Nat) : Bool :=
  match P.underlying s with
  | some (.struct fs) => match fs[f]? with
    | some fd => (P.info? fd.type).any fun i => i.size != 0
    | none => false
  | _ => false
theorem run_underlying_some {t : TypeId} {d : TypeDesc} (h : P.underlying t = some d) (w : World) : (underlying t).run P w = .ok d w := by
  simp [underlying, program, bind, Sem.bind, Sem.run, h, pure]
theorem flat_fieldAt (s : TypeId) (x : Value) (f : Nat) (hs : fieldSolid P s f = true) : Flat P (Instr.fieldAt s x f) := by
  unfold fieldSolid at hs
  split at hs
  · rename_i fs hu
    split at hs
    · rename_i fd hf
      have hsz : Flat P (do let a ← Instr.sureAddr x; pure (.pointer (some (← fieldPlace a fd))) : Sem Value) := by
        refine (flat_sureAddr _).bind fun a => Flat.bind ?_ fun _ => Flat.pure _
        unfold fieldPlace
        intro w x w' hr
        obtain ⟨n, w1, h1, h2⟩ := bind_ok hr
        obtain ⟨i, hi, hn⟩ : ∃ i, P.info? fd.type = some i ∧ (i.size != 0) = true := by
          cases hi : P.info? fd.type with
          | none => rw [hi] at hs; cases hs
          | some i => rw [hi] at hs; exact ⟨i, rfl, hs⟩
        have hz : ∀ w, (sizeOf fd.type).run P w = .ok i.size w := fun w => by simp [sizeOf, typeInfo, program, bind, Sem.bind, Sem.run, hi, pure]
        rw [hz] at h1
        simp only [Result.ok.injEq] at h1
        obtain ⟨rfl, rfl⟩ := h1
        have hne : i.size ≠ 0 := by simpa using hn
        rw [if_neg hne] at h2
        obtain ⟨e1, e2⟩ := Flat.pure (P := P) _ _ _ _ h2
        exact ⟨e1, fun w2 => (bind_run (hz w2)).trans (by rw [if_neg hne]; exact e2 w2)⟩
      intro w y w' hr
      have key : ∀ w, (Instr.fieldAt s x f).run P w = (do let a ← Instr.sureAddr x; pure (.pointer (some (← fieldPlace a fd))) : Sem Value).run P w := fun w => by
        unfold Instr.fieldAt
        rw [bind_run (run_underlying_some hu w)]
        simp only [hf]
      rw [key] at hr
      obtain ⟨e1, e2⟩ := hsz _ _ _ hr
      exact ⟨e1, fun w2 => (key w2).trans (e2 w2)⟩
    · cases hs
  · cases hs

theorem Flat.bindW {s : Sem α} {f : α → Sem β} (h : Flat P s) (k : ∀ a w w', s.run P w = .ok a w' → Flat P (f a)) : Flat P (s >>= f) := fun w x w' hr => by
  obtain ⟨a, w1, h1, h2⟩ := bind_ok hr
  obtain ⟨rfl, h3⟩ := h _ _ _ h1
  obtain ⟨rfl, h4⟩ := k a _ _ h1 _ _ _ h2
  exact ⟨rfl, fun w2 => (bind_run (h3 w2)).trans (h4 w2)⟩
theorem flat_listMapM {γ : Type} {f : γ → Sem β} (h : ∀ x, Flat P (f x)) : ∀ l : List γ, Flat P (l.mapM f)
  | [] => by rw [List.mapM_nil]; exact Flat.pure _
  | x :: l => by rw [List.mapM_cons]; exact (h x).bind fun _ => (flat_listMapM h l).bind fun _ => Flat.pure _
theorem flat_mapM {γ : Type} {f : γ → Sem β} (h : ∀ x, Flat P (f x)) (xs : Array γ) : Flat P (xs.mapM f) := by
  rw [Array.mapM_eq_mapM_toList]
  rw [map_eq_pure_bind]
  exact (flat_listMapM h _).bind fun _ => Flat.pure _
theorem flat_listForIn {γ δ : Type} {f : γ → δ → Sem (ForInStep δ)} (h : ∀ x b, Flat P (f x b)) : ∀ (l : List γ) (b : δ), Flat P (forIn l b f)
  | [], b => by rw [List.forIn_nil]; exact Flat.pure _
  | x :: l, b => by
    rw [List.forIn_cons]
    refine (h x b).bind fun r => ?_
    cases r with
    | done b => exact Flat.pure _
    | yield b => exact flat_listForIn h l b
theorem flat_build (t : TypeId) (ps : Array (Nat × Value)) : Flat P (Instr.build t ps) := by
  unfold Instr.build
  refine (flat_zeroValue t).bind fun z => (flat_underlying t).bind fun u => ?_
  repeat (first
    | exact Flat.pure _ | exact (dead_stuck _).flat | exact flat_sizeOf _
    | exact flat_mapM (fun f => (flat_sizeOf _).bind fun _ => Flat.pure _) _
    | refine Flat.bind ?_ fun _ => ?_
    | split)
theorem flat_makeInterface (t : TypeId) (x : Value) : Flat P (Instr.makeInterface t x) := by
  unfold Instr.makeInterface
  refine (flat_underlying t).bind fun u => ?_
  split
  · exact (dead_stuck _).flat
  · exact Flat.pure _
theorem flat_intArith (op : BinOp) (k : IntKind) (a b : Int) : Flat P (Op.intArith op k a b) := by
  unfold Op.intArith; split <;> first | exact Flat.pure _ | exact (dead_stuck _).flat
theorem flat_intBits (op : BinOp) (k : IntKind) (a b : Int) : Flat P (Op.intBits op k a b) := by
  unfold Op.intBits; dsimp only; split <;> first | exact Flat.pure _ | exact (dead_stuck _).flat
theorem flat_intCmp (op : BinOp) (a b : Int) : Flat P (Op.intCmp op a b) := by
  unfold Op.intCmp; split <;> first | exact Flat.pure _ | exact (dead_stuck _).flat
theorem flat_intDiv (op : BinOp) (k : IntKind) (a b : Int) : Flat P (Op.intDiv op k a b) := by
  unfold Op.intDiv
  split
  · exact (dead_runtimePanic _).flat
  · split <;> first | exact Flat.pure _ | exact (dead_stuck _).flat
theorem flat_shift (op : BinOp) (k : IntKind) (a : Int) (j : IntKind) (b : Int) : Flat P (Op.shift op k a j b) := by
  unfold Op.shift
  split
  · exact (dead_runtimePanic _).flat
  · dsimp only; split <;> first | exact Flat.pure _ | exact (dead_stuck _).flat
theorem flat_stringOp (op : BinOp) (a b : ByteArray) : Flat P (Op.stringOp op a b) := by
  unfold Op.stringOp; dsimp only; split <;> first | exact Flat.pure _ | exact (dead_stuck _).flat | (split; exact (dead_unsupported _).flat; exact Flat.pure _)
theorem flat_unary (op : UnOp) (x : Value) : Flat P (Op.unary op x) := by
  unfold Op.unary; split <;> first | exact Flat.pure _ | exact (dead_stuck _).flat | exact (dead_unsupported _).flat | exact flat_intArith _ _ _ _ | exact flat_intBits _ _ _ _
theorem flat_followBlind : ∀ (l : List FieldStep) (t : TypeId) (x : Option Value), Flat P (followBlind l t x)
  | [], t, x => by unfold followBlind; exact Flat.pure _
  | s :: l, t, x => by
    unfold followBlind
    refine (flat_underlying _).bind fun u => ?_
    repeat (first
      | exact Flat.pure _ | exact (dead_stuck _).flat | exact flat_part _ _ _ | exact flat_followBlind l _ _
      | refine Flat.bind ?_ fun _ => ?_
      | split)
theorem flat_nilAhead : ∀ (n : Nat) (t : TypeId) (v : Value) (s : String), Flat P (nilAhead n t v s)
  | 0, _, _, _ => by unfold nilAhead; exact Flat.pure _
  | n + 1, t, v, s => by
    unfold nilAhead
    refine (flat_typeInfo _).bind fun u => ?_
    repeat (first
      | exact Flat.pure _ | exact (dead_stuck _).flat | exact flat_followBlind _ _ _ | exact flat_nilAhead n _ _ _ | exact flat_underlying _
      | refine Flat.bind ?_ fun _ => ?_
      | split)

/-! ### Values that arithmetic takes without looking at the world -/
def plainC : Value → Bool
  | .int _ _ => true
  | .bool _ => true
  | .string _ => true
  | .tuple _ => true
  | _ => false
def plainV : Value → Bool
  | .agg cs => cs.all plainC
  | v => plainC v
def nilV : Value → Bool
  | .pointer none => true
  | .nilIface => true
  | .nilFunc => true
  | .slice none _ _ => true
  | .map none => true
  | .chan none => true
  | _ => false
def eqOp : BinOp → Bool
  | .eql => true
  | .neq => true
  | _ => false
/-- Two floats whose sum, difference, product or quotient is no NaN. -/
def fPair (op : BinOp) : Value → Value → Bool
  | .float k x, .float k' y => decide (k = k') && (floatBits op k x y).isSome
  | _, _ => false
def okPair (op : BinOp) (x y : Value) : Bool := (plainV x && plainV y) || (eqOp op && (nilV x || nilV y)) || fPair op x y

theorem plainV_of_C {v : Value} (h : plainC v = true) : plainV v = true := by cases v <;> simp_all [plainC, plainV]
theorem plain_part {t : TypeId} {cs : Array Value} {off : Nat} (h : cs.all plainC = true) {w w' : World} {v : Value} (hr : (part t cs off).run P w = .ok v w') : plainV v = true := by
  unfold part at hr
  obtain ⟨b, w1, _, h2⟩ := bind_ok hr
  have hall : ∀ i (hi : i < cs.size), plainC cs[i] = true := by simpa [Array.all_eq_true] using h
  cases b with
  | true =>
    simp only [if_true] at h2
    obtain ⟨n, w2, _, h3⟩ := bind_ok h2
    simp only [Sem.run_pure, Result.ok.injEq] at h3
    obtain ⟨rfl, _⟩ := h3
    simp only [plainV, Array.all_eq_true]
    intro i hi
    have hi' : off + i < cs.size := by simp at hi; omega
    have := hall (off + i) hi'
    simpa using this
  | false =>
    simp only [Bool.false_eq_true, if_false] at h2
    split at h2
    · rename_i v' hv
      simp only [Sem.run_pure, Result.ok.injEq] at h2
      obtain ⟨rfl, _⟩ := h2
      obtain ⟨hl, rfl⟩ := Array.getElem?_eq_some_iff.1 hv
      exact plainV_of_C (hall off hl)
    · exact absurd h2 (dead_stuck _ _ _ _)
theorem flat_arrForIn {γ δ : Type} {f : γ → δ → Sem (ForInStep δ)} (h : ∀ x b, Flat P (f x b)) (xs : Array γ) (b : δ) : Flat P (forIn xs b f) := by
  rw [← Array.forIn_toList]; exact flat_listForIn h _ _
theorem flat_rangeForIn {δ : Type} {f : Nat → δ → Sem (ForInStep δ)} (h : ∀ x b, Flat P (f x b)) (n : Nat) (b : δ) : Flat P (forIn [:n] b f) := by
  rw [Std.Legacy.Range.forIn_eq_forIn_range']; exact flat_listForIn h _ _
theorem flat_equalIn : ∀ (d : Nat) (t : TypeId) (x y : Value), plainV x = true → plainV y = true → Flat P (Op.equalIn d t x y)
  | 0, _, _, _, _, _ => by unfold Op.equalIn; exact (dead_unsupported _).flat
  | d + 1, t, x, y, hx, hy => by
    unfold Op.equalIn
    refine (flat_underlying _).bind fun u => ?_
    cases x <;> simp only [plainV, plainC, Bool.false_eq_true] at hx <;> cases y <;> simp only [plainV, plainC, Bool.false_eq_true] at hy <;> (try dsimp only) <;> split <;> (try contradiction) <;>
      first
        | exact Flat.pure _
        | exact (dead_stuck _).flat
        | exact (dead_unsupported _).flat
        | (split <;> first | exact Flat.pure _ | exact (dead_stuck _).flat)
        | skip
    · rename_i e1 e2
      injection e1 with e1; injection e2 with e2
      subst e1; subst e2
      refine flat_program.bind fun p => ?_
      split
      · exact ((dead_unsupported _).bind).flat
      · refine Flat.bind (flat_arrForIn (fun f b => ?_) _ _) fun r => ?_
        · split
          · refine Flat.bindW (flat_part _ _ _) fun a _ _ ha => Flat.bindW (flat_part _ _ _) fun b _ _ hb => ?_
            refine (flat_equalIn d _ _ _ (plain_part hx ha) (plain_part hy hb)).bind fun r => ?_
            split <;> exact Flat.pure _
          · exact Flat.pure _
        · split <;> exact Flat.pure _
    · rename_i e1 e2
      injection e1 with e1; injection e2 with e2
      subst e1; subst e2
      refine (flat_sizeOf _).bind fun n => ?_
      refine Flat.bind (flat_rangeForIn (fun f b => ?_) _ _) fun r => ?_
      · refine Flat.bindW (flat_part _ _ _) fun a _ _ ha => Flat.bindW (flat_part _ _ _) fun b _ _ hb => ?_
        refine (flat_equalIn d _ _ _ (plain_part hx ha) (plain_part hy hb)).bind fun r => ?_
        split <;> exact Flat.pure _
      · split <;> exact Flat.pure _
theorem flat_eqGuardIn : ∀ (d : Nat) (t : TypeId) (x y : Value), Flat P (Op.eqGuardIn d t x y)
  | 0, _, _, _ => by unfold Op.eqGuardIn; exact (dead_unsupported _).flat
  | d + 1, t, x, y => by
    unfold Op.eqGuardIn
    refine (flat_underlying _).bind fun u => ?_
    split
    · exact Flat.pure _
    · refine Flat.bind (flat_arrForIn (fun f b => ?_) _ _) fun r => ?_
      · split
        · refine (flat_part _ _ _).bind fun a => (flat_part _ _ _).bind fun b => (flat_eqGuardIn d _ _ _).bind fun r => ?_
          split <;> exact Flat.pure _
        · exact Flat.pure _
      · dsimp only; split <;> exact Flat.pure _
    · refine (flat_sizeOf _).bind fun n => ?_
      refine Flat.bind (flat_rangeForIn (fun f b => ?_) _ _) fun r => ?_
      · refine (flat_part _ _ _).bind fun a => (flat_part _ _ _).bind fun b => (flat_eqGuardIn d _ _ _).bind fun r => ?_
        split <;> exact Flat.pure _
      · dsimp only; split <;> exact Flat.pure _
    · exact Flat.pure _
theorem flat_eqGuard (op : BinOp) (t : TypeId) (x y : Operand) (a b : Value) : Flat P (eqGuard op t x y a b) := by
  unfold eqGuard
  repeat (first
    | exact Flat.pure _ | exact (dead_unsupported _).flat | exact flat_eqGuardIn _ _ _ _ | exact flat_program
    | refine Flat.bind ?_ fun _ => ?_
    | split)
theorem flat_equalNil (d : Nat) (t : TypeId) (x y : Value) (h : nilV x = true ∨ nilV y = true) : Flat P (Op.equalIn d t x y) := by
  cases d with
  | zero => unfold Op.equalIn; exact (dead_unsupported _).flat
  | succ d =>
    unfold Op.equalIn
    refine (flat_underlying _).bind fun u => ?_
    split <;> (try simp only [nilV, Bool.false_eq_true, or_self] at h) <;>
      first
        | exact Flat.pure _
        | exact (dead_stuck _).flat
        | exact (dead_unsupported _).flat
        | (unfold samePointer; split <;> first | exact Flat.pure _ | (simp at h))
        | skip
theorem flat_binOp {op : BinOp} {t : TypeId} {x y : Value} (h : okPair op x y = true) : Flat P (binOp op t x y) := by
  unfold okPair at h
  simp only [Bool.or_eq_true, Bool.and_eq_true] at h
  rcases h with (⟨hx, hy⟩ | ⟨ho, hn⟩) | hf
  · unfold binOp
    cases x <;> simp only [plainV, plainC, Bool.false_eq_true] at hx <;> cases y <;> simp only [plainV, plainC, Bool.false_eq_true] at hy <;> cases op <;> dsimp only <;>
      first
        | exact flat_stringOp _ _ _
        | exact flat_shift _ _ _ _ _
        | exact (dead_stuck _).flat
        | exact (flat_equalIn _ _ _ _ (by simp [plainV, plainC, *]) (by simp [plainV, plainC, *])).bind fun _ => Flat.pure _
        | (split <;> first | exact (dead_stuck _).flat | exact flat_intArith _ _ _ _ | exact flat_intDiv _ _ _ _ | exact flat_intBits _ _ _ _ | exact flat_intCmp _ _ _)
  · have he : ∀ d, Flat P (Op.equalIn d t x y) := fun d => flat_equalNil d t x y hn
    unfold binOp
    rcases hn with hn | hn <;> cases op <;> simp only [eqOp, Bool.false_eq_true] at ho <;> split <;> (try simp only [nilV, Bool.false_eq_true] at hn) <;>
      first
        | exact (he _).bind fun _ => Flat.pure _
        | contradiction
        | exact (dead_stuck _).flat
        | skip
  · unfold fPair at hf
    split at hf
    · simp only [Bool.and_eq_true, decide_eq_true_eq] at hf
      obtain ⟨rfl, hf⟩ := hf
      obtain ⟨r, hr⟩ := Option.isSome_iff_exists.1 hf
      intro w x w' h
      rw [run_float_arith w op t _ _ _ r hr] at h
      injection h with h1 h2
      subst h1
      subst h2
      exact ⟨rfl, fun w2 => run_float_arith w2 op t _ _ _ r hr⟩
    · cases hf
theorem Flat.bindU {t : TypeId} {d : TypeDesc} {f : TypeDesc → Sem β} (hu : P.underlying t = some d) (k : Flat P (f d)) : Flat P (underlying t >>= f) := fun w x w' hr => by
  rw [bind_run (run_underlying_some hu w)] at hr
  obtain ⟨rfl, h4⟩ := k _ _ _ hr
  exact ⟨rfl, fun w2 => (bind_run (run_underlying_some hu w2)).trans (h4 w2)⟩
theorem Calm.bindU {t : TypeId} {d : TypeDesc} {f : TypeDesc → Sem β} (hu : P.underlying t = some d) (k : Calm P (f d)) : Calm P (underlying t >>= f) := fun w x w' hr => by
  rw [bind_run (run_underlying_some hu w)] at hr
  obtain ⟨rfl, h4⟩ := k _ _ _ hr
  exact ⟨rfl, fun w2 he => (bind_run (run_underlying_some hu w2)).trans (h4 w2 he)⟩
def lenFlat (P : Program) (t : TypeId) : Bool := match P.underlying t with | some (.slice _) => true | some .string => true | some (.array _ _) => true | _ => false
theorem flat_len {t : TypeId} {ts : Array TypeId} {ty : TypeId} {args : Array Value} (ht : ts[0]? = some t) (h : lenFlat P t = true) : Flat P (Builtin.len_ ts ty args) := by
  unfold Builtin.len_
  rw [ht]
  cases ha : args[0]? with
  | none => exact (dead_stuck _).flat
  | some v =>
    dsimp only
    unfold lenFlat at h
    split at h
    · rename_i hu; exact Flat.bindU hu (by split <;> first | exact Flat.pure _ | exact (dead_stuck _).flat | contradiction)
    · rename_i hu; exact Flat.bindU hu (by split <;> first | exact Flat.pure _ | exact (dead_stuck _).flat | contradiction)
    · rename_i hu; exact Flat.bindU hu (Flat.pure _)
    · cases h
theorem flat_cap {t : TypeId} {ts : Array TypeId} {ty : TypeId} {args : Array Value} (ht : ts[0]? = some t) (h : (match P.underlying t with | some (.slice _) => true | _ => false) = true) : Flat P (Builtin.cap_ ts ty args) := by
  unfold Builtin.cap_
  rw [ht]
  cases ha : args[0]? with
  | none => exact (dead_stuck _).flat
  | some v =>
    dsimp only
    split at h
    · rename_i hu; exact Flat.bindU hu (by split <;> first | exact Flat.pure _ | exact (dead_stuck _).flat | contradiction)
    · cases h
def convOK (P : Program) (dst : TypeId) : Value → Bool
  | .int _ _ => match P.underlying dst with | some (.int _) => true | _ => false
  | .string _ => match P.underlying dst with | some .string => true | _ => false
  | _ => false
theorem flat_convert {src dst : TypeId} {x : Value} (h : convOK P dst x = true) : Flat P (convert src dst x) := by
  unfold convert
  refine (flat_underlying src).bind fun s => ?_
  cases x <;> simp only [convOK, Bool.false_eq_true] at h <;> split at h <;> first | cases h | skip
  · rename_i hu; exact Flat.bindU hu (Flat.pure _)
  · rename_i hu; exact Flat.bindU hu (Flat.pure _)
theorem flat_min2 {x y : Value} (hx : plainC x = true) (hy : plainC y = true) : Flat P (Builtin.min2 x y) := by
  cases x <;> simp only [plainC, Bool.false_eq_true] at hx <;> cases y <;> simp only [plainC, Bool.false_eq_true] at hy <;> unfold Builtin.min2 <;> first
    | exact Flat.pure _
    | exact (dead_stuck _).flat
    | exact Flat.bind (Flat.bind (flat_stringOp _ _ _) fun _ => flat_asBool _) fun _ => Flat.pure _
    | exact Flat.bind (flat_stringOp _ _ _) fun _ => Flat.bind (flat_asBool _) fun _ => Flat.pure _

/-! ### Reading memory -/
end
end Go.Lex
