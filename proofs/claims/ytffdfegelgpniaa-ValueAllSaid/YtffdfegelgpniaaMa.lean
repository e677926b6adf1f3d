/-
  A region that draws its order, walked in the order of the text: what one order yields every order yields, where the operations that write are ordered among each other and among the loads. Conditions: 'seqOK', a closed Bool over the region; the values that arithmetic takes are plain ('plainAll', asked at the end of the walk).
-/
import Derived.Orders
import Derived.Tactics
import Derived.Laws.Sem
import Derived.KernelRfl
set_option linter.unusedSimpArgs false
set_option linter.unusedVariables false
set_option linter.unusedSimpArgs false
set_option linter.unusedVariables false
namespace Go.Lex

/-! ### Worlds that only grow -/
def Ext (w w2 : World) : Prop := ∀ i, i < w.heap.size → w2.heap[i]? = w.heap[i]?
theorem Ext.refl (w : World) : Ext w w := fun _ _ => rfl
theorem Ext.size {w w2 : World} (h : Ext w w2) : w.heap.size ≤ w2.heap.size := by
  rcases Nat.lt_or_ge w2.heap.size w.heap.size with h0 | h0
  · have h1 := (h w2.heap.size h0).symm
    rw [Array.getElem?_eq_none (Nat.le_refl _), Array.getElem?_eq_getElem h0] at h1
    cases h1
  · exact h0
theorem Ext.trans {a b c : World} (h : Ext a b) (k : Ext b c) : Ext a c := fun i hi => (k i (Nat.lt_of_lt_of_le hi h.size)).trans (h i hi)
theorem Ext.block {w w2 : World} (h : Ext w w2) {b : Nat} {o : Obj} (ho : w.heap[b]? = some o) : w2.heap[b]? = some o :=
  (h b (Array.getElem?_eq_some_iff.1 ho).1).trans ho
theorem Ext.cell {w w2 : World} (h : Ext w w2) {a : Addr} {v : Value} (hv : w.cell? a = some v) : w2.cell? a = some v := by
  unfold World.cell? at *
  cases ho : w.heap[a.block]? with
  | none => rw [ho] at hv; cases hv
  | some o => rw [ho] at hv; rw [h.block ho]; exact hv

/-! ### What a piece of the model does to the world -/
section
variable {P : Program}
/-- one outcome in every world, and the world stays -/
def Flat (P : Program) {α : Type} (s : Sem α) : Prop := ∀ w x w', s.run P w = .ok x w' → w' = w ∧ ∀ w2, s.run P w2 = .ok x w2
/-- one outcome in every world that grew out of this one, and the world stays -/
def Calm (P : Program) {α : Type} (s : Sem α) : Prop := ∀ w x w', s.run P w = .ok x w' → w' = w ∧ ∀ w2, Ext w w2 → s.run P w2 = .ok x w2
/-- the world at most grows -/
def Grows (P : Program) {α : Type} (s : Sem α) : Prop := ∀ w x w', s.run P w = .ok x w' → Ext w w'
def Dead (P : Program) {α : Type} (s : Sem α) : Prop := ∀ w x w', s.run P w ≠ .ok x w'

variable {α β : Type}
theorem Flat.calm {s : Sem α} (h : Flat P s) : Calm P s := fun w x w' hr => ⟨(h w x w' hr).1, fun w2 _ => (h w x w' hr).2 w2⟩
theorem Calm.grows {s : Sem α} (h : Calm P s) : Grows P s := fun w x w' hr => by rw [(h w x w' hr).1]; exact Ext.refl w
theorem Dead.flat {s : Sem α} (h : Dead P s) : Flat P s := fun w x w' hr => absurd hr (h w x w')
theorem Dead.grows {s : Sem α} (h : Dead P s) : Grows P s := fun w x w' hr => absurd hr (h w x w')
theorem Flat.pure (a : α) : Flat P (Pure.pure a : Sem α) := fun w x w' hr => by
  simp only [Sem.run_pure, Result.ok.injEq] at hr
  obtain ⟨rfl, rfl⟩ := hr
  exact ⟨rfl, fun w2 => by simp⟩
theorem bind_ok {s : Sem α} {f : α → Sem β} {w : World} {x : β} {w' : World} (h : (s >>= f).run P w = .ok x w') : ∃ a w1, s.run P w = .ok a w1 ∧ (f a).run P w1 = .ok x w' := by
  rw [Sem.run_bind] at h
  cases hs : s.run P w with
  | ok a w1 => rw [hs] at h; exact ⟨a, w1, rfl, h⟩
  | halt e w1 => rw [hs] at h; cases h
theorem bind_run {s : Sem α} {f : α → Sem β} {w : World} {a : α} {w1 : World} (h : s.run P w = .ok a w1) : (s >>= f).run P w = (f a).run P w1 := by
  rw [Sem.run_bind, h]; rfl
theorem Flat.bind {s : Sem α} {f : α → Sem β} (h : Flat P s) (k : ∀ a, Flat P (f a)) : Flat P (s >>= f) := fun w x w' hr => by
  obtain ⟨a, w1, h1, h2⟩ := bind_ok hr
  obtain ⟨rfl, h3⟩ := h _ _ _ h1
  obtain ⟨rfl, h4⟩ := k a _ _ _ h2
  exact ⟨rfl, fun w2 => (bind_run (h3 w2)).trans (h4 w2)⟩
theorem Calm.bind {s : Sem α} {f : α → Sem β} (h : Calm P s) (k : ∀ a, Calm P (f a)) : Calm P (s >>= f) := fun w x w' hr => by
  obtain ⟨a, w1, h1, h2⟩ := bind_ok hr
  obtain ⟨rfl, h3⟩ := h _ _ _ h1
  obtain ⟨rfl, h4⟩ := k a _ _ _ h2
  exact ⟨rfl, fun w2 he => (bind_run (h3 w2 he)).trans (h4 w2 he)⟩
theorem Grows.bind {s : Sem α} {f : α → Sem β} (h : Grows P s) (k : ∀ a, Grows P (f a)) : Grows P (s >>= f) := fun w x w' hr => by
  obtain ⟨a, w1, h1, h2⟩ := bind_ok hr
  exact (h _ _ _ h1).trans (k a _ _ _ h2)
theorem Dead.bind {s : Sem α} {f : α → Sem β} (h : Dead P s) : Dead P (s >>= f) := fun w x w' hr => by
  obtain ⟨a, w1, h1, _⟩ := bind_ok hr
  exact h _ _ _ h1
theorem Dead.bind' {s : Sem α} {f : α → Sem β} (k : ∀ a, Dead P (f a)) : Dead P (s >>= f) := fun w x w' hr => by
  obtain ⟨a, w1, _, h2⟩ := bind_ok hr
  exact k a _ _ _ h2
theorem Dead.halt (h : Halt) : Dead P (.halt h : Sem α) := fun w x w' hr => by simp [Sem.run] at hr
theorem dead_stuck (s : String) : Dead P (stuck s : Sem α) := Dead.halt _
theorem dead_unsupported (u : Unsupported) : Dead P (unsupported u : Sem α) := Dead.halt _
theorem dead_goPanic (v : Value) : Dead P (goPanic v : Sem α) := Dead.halt _
theorem dead_runtimePanic (e : RuntimeError) : Dead P (runtimePanic e : Sem α) := by
  unfold runtimePanic
  refine Dead.bind' fun p => ?_
  cases e
  all_goals first
    | exact dead_goPanic _
    | exact Dead.bind' fun _ => dead_goPanic _
    | exact Dead.bind' fun _ => Dead.bind' fun _ => dead_goPanic _
theorem dead_boundsPanic (k : IntKind) (x y : Int) (c : BoundsCode) : Dead P (boundsPanic k x y c : Sem α) := by
  unfold boundsPanic
  dsimp only
  split
  · exact Dead.bind' fun _ => dead_runtimePanic _
  · exact Dead.bind' fun _ => dead_runtimePanic _
theorem flat_program : Flat P program := fun w x w' hr => by
  simp only [program, Sem.run, Result.ok.injEq] at hr
  obtain ⟨rfl, rfl⟩ := hr
  exact ⟨rfl, fun w2 => rfl⟩
theorem flat_mark (m : Mark) : Flat P (mark m) := fun w x w' hr => by
  simp only [mark, Sem.run, Result.ok.injEq] at hr
  obtain ⟨_, rfl⟩ := hr
  exact ⟨rfl, fun w2 => rfl⟩
theorem flat_typeInfo (t : TypeId) : Flat P (typeInfo t) := flat_program.bind fun p => by
  split
  · exact Flat.pure _
  · exact (dead_stuck _).flat
theorem flat_underlying (t : TypeId) : Flat P (underlying t) := flat_program.bind fun p => by
  split
  · exact Flat.pure _
  · exact (dead_stuck _).flat
theorem flat_zeroValue (t : TypeId) : Flat P (zeroValue t) := (flat_typeInfo t).bind fun i => by
  split
  · exact Flat.pure _
  · exact (dead_unsupported _).flat
theorem flat_sizeOf (t : TypeId) : Flat P (sizeOf t) := (flat_typeInfo t).bind fun _ => Flat.pure _
theorem flat_isAgg (t : TypeId) : Flat P (isAgg t) := (flat_underlying t).bind fun i => by
  split
  · exact Flat.pure _
  · exact Flat.pure _
  · exact Flat.pure _
theorem flat_asBool (v : Value) : Flat P (asBool v) := by
  unfold asBool; split
  · exact Flat.pure _
  · exact (dead_stuck _).flat
theorem flat_asIntOf (v : Value) : Flat P (asIntOf v) := by
  unfold asIntOf; split
  · exact Flat.pure _
  · exact (dead_unsupported _).flat
  · exact (dead_stuck _).flat
theorem flat_asInt (v : Value) : Flat P (asInt v) := (flat_asIntOf v).bind fun _ => Flat.pure _
theorem flat_asAgg (v : Value) : Flat P (asAgg v) := by
  unfold asAgg; split
  · exact Flat.pure _
  · exact (dead_stuck _).flat
theorem flat_asAddr (v : Value) : Flat P (asAddr v) := by
  unfold asAddr; split
  · exact Flat.pure _
  · exact (dead_runtimePanic _).flat
  · exact (dead_stuck _).flat
theorem flat_sureAddr (v : Value) : Flat P (Instr.sureAddr v) := by
  unfold Instr.sureAddr; split
  · exact Flat.pure _
  · exact (dead_stuck _).flat
theorem flat_part (t : TypeId) (cs : Array Value) (off : Nat) : Flat P (part t cs off) := (flat_isAgg t).bind fun b => by
  split
  · exact (flat_sizeOf t).bind fun _ => Flat.pure _
  · split
    · exact Flat.pure _
    · exact (dead_stuck _).flat

/-! ### The operations -/
theorem flat_sliceBound (x : Value) (y : Nat) (c : BoundsCode) : Flat P (Instr.sliceBound x y c) := (flat_asIntOf x).bind fun ki => by
  obtain ⟨k, i⟩ := ki
  dsimp only
  split
  · exact Flat.pure _
  · exact (dead_boundsPanic _ _ _ _).flat
theorem flat_sliceBounds (b : Bool) (len cap : Nat) (lo hi mx : Option Value) : Flat P (Instr.sliceBounds b len cap lo hi mx) := by
  unfold Instr.sliceBounds
  cases lo <;> cases hi <;> cases mx <;> dsimp only <;> repeat (first | exact Flat.pure _ | exact flat_sliceBound _ _ _ | exact (dead_stuck _).flat | exact ((dead_stuck _).bind).flat | refine Flat.bind ?_ fun _ => ?_)
theorem flat_slice (t : TypeId) (x : Value) (lo hi mx : Option Value) : Flat P (Instr.slice t x lo hi mx) := by
  unfold Instr.slice
  refine (flat_underlying t).bind fun u => ?_
  split
  · split
    · exact ((dead_stuck _).bind).flat
    · exact (flat_sliceBounds _ _ _ _ _ _).bind fun ⟨_, _, _⟩ => Flat.pure _
  · exact (flat_sliceBounds _ _ _ _ _ _).bind fun ⟨_, _, _⟩ => (flat_sizeOf _).bind fun _ => Flat.pure _
  · refine (flat_asAddr _).bind fun a => (flat_underlying _).bind fun u => ?_
    split
    · exact (flat_sliceBounds _ _ _ _ _ _).bind fun ⟨_, _, _⟩ => (flat_sizeOf _).bind fun _ => Flat.pure _
    · exact (dead_stuck _).flat
  · exact (dead_stuck _).flat
theorem flat_sliceAt (t : TypeId) (x : Value) (lo hi mx : Option Value) : Flat P (Instr.sliceAt t x lo hi mx) := by
  unfold Instr.sliceAt
  refine (flat_underlying t).bind fun u => ?_
  split
  · exact (flat_sureAddr _).bind fun a => (flat_sliceBounds _ _ _ _ _ _).bind fun ⟨_, _, _⟩ => (flat_sizeOf _).bind fun _ => Flat.pure _
  · exact flat_slice _ _ _ _ _
theorem flat_indexAt (t : TypeId) (x i : Value) : Flat P (Instr.indexAt t x i) := by
  unfold Instr.indexAt
  dsimp only
  repeat (first
    | exact Flat.pure _ | exact (dead_stuck _).flat | exact (dead_unsupported _).flat | exact (dead_boundsPanic _ _ _ _).flat
    | exact flat_asIntOf _ | exact flat_underlying _ | exact flat_sureAddr _ | exact flat_sizeOf _
    | refine Flat.bind ?_ fun _ => ?_
    | split)
theorem flat_index (t : TypeId) (x i : Value) : Flat P (Instr.index t x i) := by
  unfold Instr.index
  refine (flat_asIntOf _).bind fun ⟨k, i⟩ => ?_
  refine (flat_underlying t).bind fun u => ?_
  split
  · split
    · exact (flat_sizeOf _).bind fun _ => flat_part _ _ _
    · exact (dead_boundsPanic _ _ _ _).flat
  · split
    · exact Flat.pure _
    · exact (dead_boundsPanic _ _ _ _).flat
  · exact (dead_stuck _).flat
theorem flat_field (t : TypeId) (x : Value) (i : Nat) : Flat P (Instr.field t x i) := by
  unfold Instr.field
  refine (flat_underlying t).bind fun u => ?_
  split
  · split
    · exact (flat_asAgg _).bind fun _ => flat_part _ _ _
    · exact (dead_stuck _).flat
  · exact (dead_stuck _).flat
theorem flat_extract (x : Value) (i : Nat) : Flat P (Instr.extract x i) := by
  unfold Instr.extract
  split
  · split
    · exact Flat.pure _
    · exact (dead_stuck _).flat
  · exact (dead_stuck _).flat
/-- a field of a struct type whose cells are not none -/
def fieldSolid (P : Program) (s : TypeId) (f : Nat) : Bool :=
  match P.underlying s with
  | some (.struct fs) => match fs[f]? with
    | some fd => (P.info? fd.type).any fun i => i.size != 0
    | none => false
  | _ => false
theorem run_underlying_some {t : TypeId} {d : TypeDesc} (h : P.underlying t = some d) (w : World) : (underlying t).run P w = .ok d w := by
  simp [underlying, program, bind, Sem.bind, Sem.run, h, pure]
theorem flat_fieldAt (s : TypeId) (x : Value) (f : Nat) (hs : fieldSolid P s f = true) : Flat P (Instr.fieldAt s x f) := by
  unfold fieldSolid at hs
  split at hs
  · rename_i fs hu
    split at hs
    · rename_i fd hf
      have hsz : Flat P (do let a ← Instr.sureAddr x; pure (.pointer (some (← fieldPlace a fd))) : Sem Value) := by
        refine (flat_sureAddr _).bind fun a => Flat.bind ?_ fun _ => Flat.pure _
        unfold fieldPlace
        intro w x w' hr
        obtain ⟨n, w1, h1, h2⟩ := bind_ok hr
        obtain ⟨i, hi, hn⟩ : ∃ i, P.info? fd.type = some i ∧ (i.size != 0) = true := by
          cases hi : P.info? fd.type with
          | none => rw [hi] at hs; cases hs
          | some i => rw [hi] at hs; exact ⟨i, rfl, hs⟩
        have hz : ∀ w, (sizeOf fd.type).run P w = .ok i.size w := fun w => by simp [sizeOf, typeInfo, program, bind, Sem.bind, Sem.run, hi, pure]
        rw [hz] at h1
        simp only [Result.ok.injEq] at h1
        obtain ⟨rfl, rfl⟩ := h1
        have hne : i.size ≠ 0 := by simpa using hn
        rw [if_neg hne] at h2
        obtain ⟨e1, e2⟩ := Flat.pure (P := P) _ _ _ _ h2
        exact ⟨e1, fun w2 => (bind_run (hz w2)).trans (by rw [if_neg hne]; exact e2 w2)⟩
      intro w y w' hr
      have key : ∀ w, (Instr.fieldAt s x f).run P w = (do let a ← Instr.sureAddr x; pure (.pointer (some (← fieldPlace a fd))) : Sem Value).run P w := fun w => by
        unfold Instr.fieldAt
        rw [bind_run (run_underlying_some hu w)]
        simp only [hf]
      rw [key] at hr
      obtain ⟨e1, e2⟩ := hsz _ _ _ hr
      exact ⟨e1, fun w2 => (key w2).trans (e2 w2)⟩
    · cases hs
  · cases hs

theorem Flat.bindW {s : Sem α} {f : α → Sem β} (h : Flat P s) (k : ∀ a w w', s.run P w = .ok a w' → Flat P (f a)) : Flat P (s >>= f) := fun w x w' hr => by
  obtain ⟨a, w1, h1, h2⟩ := bind_ok hr
  obtain ⟨rfl, h3⟩ := h _ _ _ h1
  obtain ⟨rfl, h4⟩ := k a _ _ h1 _ _ _ h2
  exact ⟨rfl, fun w2 => (bind_run (h3 w2)).trans (h4 w2)⟩
theorem flat_listMapM {γ : Type} {f : γ → Sem β} (h : ∀ x, Flat P (f x)) : ∀ l : List γ, Flat P (l.mapM f)
  | [] => by rw [List.mapM_nil]; exact Flat.pure _
  | x :: l => by rw [List.mapM_cons]; exact (h x).bind fun _ => (flat_listMapM h l).bind fun _ => Flat.pure _
theorem flat_mapM {γ : Type} {f : γ → Sem β} (h : ∀ x, Flat P (f x)) (xs : Array γ) : Flat P (xs.mapM f) := by
  rw [Array.mapM_eq_mapM_toList]
  rw [map_eq_pure_bind]
  exact (flat_listMapM h _).bind fun _ => Flat.pure _
theorem flat_listForIn {γ δ : Type} {f : γ → δ → Sem (ForInStep δ)} (h : ∀ x b, Flat P (f x b)) : ∀ (l : List γ) (b : δ), Flat P (forIn l b f)
  | [], b => by rw [List.forIn_nil]; exact Flat.pure _
  | x :: l, b => by
    rw [List.forIn_cons]
    refine (h x b).bind fun r => ?_
    cases r with
    | done b => exact Flat.pure _
    | yield b => exact flat_listForIn h l b
theorem flat_build (t : TypeId) (ps : Array (Nat × Value)) : Flat P (Instr.build t ps) := by
  unfold Instr.build
  refine (flat_zeroValue t).bind fun z => (flat_underlying t).bind fun u => ?_
  repeat (first
    | exact Flat.pure _ | exact (dead_stuck _).flat | exact flat_sizeOf _
    | exact flat_mapM (fun f => (flat_sizeOf _).bind fun _ => Flat.pure _) _
    | refine Flat.bind ?_ fun _ => ?_
    | split)
theorem flat_makeInterface (t : TypeId) (x : Value) : Flat P (Instr.makeInterface t x) := by
  unfold Instr.makeInterface
  refine (flat_underlying t).bind fun u => ?_
  split
  · exact (dead_stuck _).flat
  · exact Flat.pure _
theorem flat_intArith (op : BinOp) (k : IntKind) (a b : Int) : Flat P (Op.intArith op k a b) := by
  unfold Op.intArith; split <;> first | exact Flat.pure _ | exact (dead_stuck _).flat
theorem flat_intBits (op : BinOp) (k : IntKind) (a b : Int) : Flat P (Op.intBits op k a b) := by
  unfold Op.intBits; dsimp only; split <;> first | exact Flat.pure _ | exact (dead_stuck _).flat
theorem flat_intCmp (op : BinOp) (a b : Int) : Flat P (Op.intCmp op a b) := by
  unfold Op.intCmp; split <;> first | exact Flat.pure _ | exact (dead_stuck _).flat
theorem flat_intDiv (op : BinOp) (k : IntKind) (a b : Int) : Flat P (Op.intDiv op k a b) := by
  unfold Op.intDiv
  split
  · exact (dead_runtimePanic _).flat
  · split <;> first | exact Flat.pure _ | exact (dead_stuck _).flat
theorem flat_shift (op : BinOp) (k : IntKind) (a : Int) (j : IntKind) (b : Int) : Flat P (Op.shift op k a j b) := by
  unfold Op.shift
  split
  · exact (dead_runtimePanic _).flat
  · dsimp only; split <;> first | exact Flat.pure _ | exact (dead_stuck _).flat
theorem flat_stringOp (op : BinOp) (a b : ByteArray) : Flat P (Op.stringOp op a b) := by
  unfold Op.stringOp; dsimp only; split <;> first | exact Flat.pure _ | exact (dead_stuck _).flat | (split; exact (dead_unsupported _).flat; exact Flat.pure _)
theorem flat_unary (op : UnOp) (x : Value) : Flat P (Op.unary op x) := by
  unfold Op.unary; split <;> first | exact Flat.pure _ | exact (dead_stuck _).flat | exact (dead_unsupported _).flat | exact flat_intArith _ _ _ _ | exact flat_intBits _ _ _ _
theorem flat_followBlind : ∀ (l : List FieldStep) (t : TypeId) (x : Option Value), Flat P (followBlind l t x)
  | [], t, x => by unfold followBlind; exact Flat.pure _
  | s :: l, t, x => by
    unfold followBlind
    refine (flat_underlying _).bind fun u => ?_
    repeat (first
      | exact Flat.pure _ | exact (dead_stuck _).flat | exact flat_part _ _ _ | exact flat_followBlind l _ _
      | refine Flat.bind ?_ fun _ => ?_
      | split)
theorem flat_nilAhead : ∀ (n : Nat) (t : TypeId) (v : Value) (s : String), Flat P (nilAhead n t v s)
  | 0, _, _, _ => by unfold nilAhead; exact Flat.pure _
  | n + 1, t, v, s => by
    unfold nilAhead
    refine (flat_typeInfo _).bind fun u => ?_
    repeat (first
      | exact Flat.pure _ | exact (dead_stuck _).flat | exact flat_followBlind _ _ _ | exact flat_nilAhead n _ _ _ | exact flat_underlying _
      | refine Flat.bind ?_ fun _ => ?_
      | split)

/-! ### Values that arithmetic takes without looking at the world -/
def plainC : Value → Bool
  | .int _ _ => true
  | .bool _ => true
  | .string _ => true
  | .tuple _ => true
  | _ => false
def plainV : Value → Bool
  | .agg cs => cs.all plainC
  | v => plainC v
def nilV : Value → Bool
  | .pointer none => true
  | .nilIface => true
  | .nilFunc => true
  | .slice none _ _ => true
  | .map none => true
  | .chan none => true
  | _ => false
def eqOp : BinOp → Bool
  | .eql => true
  | .neq => true
  | _ => false
def okPair (op : BinOp) (x y : Value) : Bool := (plainV x && plainV y) || (eqOp op && (nilV x || nilV y))

theorem plainV_of_C {v : Value} (h : plainC v = true) : plainV v = true := by cases v <;> simp_all [plainC, plainV]
theorem plain_part {t : TypeId} {cs : Array Value} {off : Nat} (h : cs.all plainC = true) {w w' : World} {v : Value} (hr : (part t cs off).run P w = .ok v w') : plainV v = true := by
  unfold part at hr
  obtain ⟨b, w1, _, h2⟩ := bind_ok hr
  have hall : ∀ i (hi : i < cs.size), plainC cs[i] = true := by simpa [Array.all_eq_true] using h
  cases b with
  | true =>
    simp only [if_true] at h2
    obtain ⟨n, w2, _, h3⟩ := bind_ok h2
    simp only [Sem.run_pure, Result.ok.injEq] at h3
    obtain ⟨rfl, _⟩ := h3
    simp only [plainV, Array.all_eq_true]
    intro i hi
    have hi' : off + i < cs.size := by simp at hi; omega
    have := hall (off + i) hi'
    simpa using this
  | false =>
    simp only [Bool.false_eq_true, if_false] at h2
    split at h2
    · rename_i v' hv
      simp only [Sem.run_pure, Result.ok.injEq] at h2
      obtain ⟨rfl, _⟩ := h2
      obtain ⟨hl, rfl⟩ := Array.getElem?_eq_some_iff.1 hv
      exact plainV_of_C (hall off hl)
    · exact absurd h2 (dead_stuck _ _ _ _)
theorem flat_arrForIn {γ δ : Type} {f : γ → δ → Sem (ForInStep δ)} (h : ∀ x b, Flat P (f x b)) (xs : Array γ) (b : δ) : Flat P (forIn xs b f) := by
  rw [← Array.forIn_toList]; exact flat_listForIn h _ _
theorem flat_rangeForIn {δ : Type} {f : Nat → δ → Sem (ForInStep δ)} (h : ∀ x b, Flat P (f x b)) (n : Nat) (b : δ) : Flat P (forIn [:n] b f) := by
  rw [Std.Legacy.Range.forIn_eq_forIn_range']; exact flat_listForIn h _ _
theorem flat_equalIn : ∀ (d : Nat) (t : TypeId) (x y : Value), plainV x = true → plainV y = true → Flat P (Op.equalIn d t x y)
  | 0, _, _, _, _, _ => by unfold Op.equalIn; exact (dead_unsupported _).flat
  | d + 1, t, x, y, hx, hy => by
    unfold Op.equalIn
    refine (flat_underlying _).bind fun u => ?_
    cases x <;> simp only [plainV, plainC, Bool.false_eq_true] at hx <;> cases y <;> simp only [plainV, plainC, Bool.false_eq_true] at hy <;> (try dsimp only) <;> split <;> (try contradiction) <;>
      first
        | exact Flat.pure _
        | exact (dead_stuck _).flat
        | exact (dead_unsupported _).flat
        | (split <;> first | exact Flat.pure _ | exact (dead_stuck _).flat)
        | skip
    · rename_i e1 e2
      injection e1 with e1; injection e2 with e2
      subst e1; subst e2
      refine flat_program.bind fun p => ?_
      split
      · exact ((dead_unsupported _).bind).flat
      · refine Flat.bind (flat_arrForIn (fun f b => ?_) _ _) fun r => ?_
        · split
          · refine Flat.bindW (flat_part _ _ _) fun a _ _ ha => Flat.bindW (flat_part _ _ _) fun b _ _ hb => ?_
            refine (flat_equalIn d _ _ _ (plain_part hx ha) (plain_part hy hb)).bind fun r => ?_
            split <;> exact Flat.pure _
          · exact Flat.pure _
        · split <;> exact Flat.pure _
    · rename_i e1 e2
      injection e1 with e1; injection e2 with e2
      subst e1; subst e2
      refine (flat_sizeOf _).bind fun n => ?_
      refine Flat.bind (flat_rangeForIn (fun f b => ?_) _ _) fun r => ?_
      · refine Flat.bindW (flat_part _ _ _) fun a _ _ ha => Flat.bindW (flat_part _ _ _) fun b _ _ hb => ?_
        refine (flat_equalIn d _ _ _ (plain_part hx ha) (plain_part hy hb)).bind fun r => ?_
        split <;> exact Flat.pure _
      · split <;> exact Flat.pure _
theorem flat_eqGuardIn : ∀ (d : Nat) (t : TypeId) (x y : Value), Flat P (Op.eqGuardIn d t x y)
  | 0, _, _, _ => by unfold Op.eqGuardIn; exact (dead_unsupported _).flat
  | d + 1, t, x, y => by
    unfold Op.eqGuardIn
    refine (flat_underlying _).bind fun u => ?_
    split
    · exact Flat.pure _
    · refine Flat.bind (flat_arrForIn (fun f b => ?_) _ _) fun r => ?_
      · split
        · refine (flat_part _ _ _).bind fun a => (flat_part _ _ _).bind fun b => (flat_eqGuardIn d _ _ _).bind fun r => ?_
          split <;> exact Flat.pure _
        · exact Flat.pure _
      · dsimp only; split <;> exact Flat.pure _
    · refine (flat_sizeOf _).bind fun n => ?_
      refine Flat.bind (flat_rangeForIn (fun f b => ?_) _ _) fun r => ?_
      · refine (flat_part _ _ _).bind fun a => (flat_part _ _ _).bind fun b => (flat_eqGuardIn d _ _ _).bind fun r => ?_
        split <;> exact Flat.pure _
      · dsimp only; split <;> exact Flat.pure _
    · exact Flat.pure _
theorem flat_eqGuard (op : BinOp) (t : TypeId) (x y : Operand) (a b : Value) : Flat P (eqGuard op t x y a b) := by
  unfold eqGuard
  repeat (first
    | exact Flat.pure _ | exact (dead_unsupported _).flat | exact flat_eqGuardIn _ _ _ _ | exact flat_program
    | refine Flat.bind ?_ fun _ => ?_
    | split)
theorem flat_equalNil (d : Nat) (t : TypeId) (x y : Value) (h : nilV x = true ∨ nilV y = true) : Flat P (Op.equalIn d t x y) := by
  cases d with
  | zero => unfold Op.equalIn; exact (dead_unsupported _).flat
  | succ d =>
    unfold Op.equalIn
    refine (flat_underlying _).bind fun u => ?_
    split <;> (try simp only [nilV, Bool.false_eq_true, or_self] at h) <;>
      first
        | exact Flat.pure _
        | exact (dead_stuck _).flat
        | exact (dead_unsupported _).flat
        | (unfold samePointer; split <;> first | exact Flat.pure _ | (simp at h))
        | skip
theorem flat_binOp {op : BinOp} {t : TypeId} {x y : Value} (h : okPair op x y = true) : Flat P (binOp op t x y) := by
  unfold okPair at h
  simp only [Bool.or_eq_true, Bool.and_eq_true] at h
  rcases h with ⟨hx, hy⟩ | ⟨ho, hn⟩
  · unfold binOp
    cases x <;> simp only [plainV, plainC, Bool.false_eq_true] at hx <;> cases y <;> simp only [plainV, plainC, Bool.false_eq_true] at hy <;> cases op <;> dsimp only <;>
      first
        | exact flat_stringOp _ _ _
        | exact flat_shift _ _ _ _ _
        | exact (dead_stuck _).flat
        | exact (flat_equalIn _ _ _ _ (by simp [plainV, plainC, *]) (by simp [plainV, plainC, *])).bind fun _ => Flat.pure _
        | (split <;> first | exact (dead_stuck _).flat | exact flat_intArith _ _ _ _ | exact flat_intDiv _ _ _ _ | exact flat_intBits _ _ _ _ | exact flat_intCmp _ _ _)
  · have he : ∀ d, Flat P (Op.equalIn d t x y) := fun d => flat_equalNil d t x y hn
    unfold binOp
    rcases hn with hn | hn <;> cases op <;> simp only [eqOp, Bool.false_eq_true] at ho <;> split <;> (try simp only [nilV, Bool.false_eq_true] at hn) <;>
      first
        | exact (he _).bind fun _ => Flat.pure _
        | contradiction
        | exact (dead_stuck _).flat
        | skip
theorem Flat.bindU {t : TypeId} {d : TypeDesc} {f : TypeDesc → Sem β} (hu : P.underlying t = some d) (k : Flat P (f d)) : Flat P (underlying t >>= f) := fun w x w' hr => by
  rw [bind_run (run_underlying_some hu w)] at hr
  obtain ⟨rfl, h4⟩ := k _ _ _ hr
  exact ⟨rfl, fun w2 => (bind_run (run_underlying_some hu w2)).trans (h4 w2)⟩
theorem Calm.bindU {t : TypeId} {d : TypeDesc} {f : TypeDesc → Sem β} (hu : P.underlying t = some d) (k : Calm P (f d)) : Calm P (underlying t >>= f) := fun w x w' hr => by
  rw [bind_run (run_underlying_some hu w)] at hr
  obtain ⟨rfl, h4⟩ := k _ _ _ hr
  exact ⟨rfl, fun w2 he => (bind_run (run_underlying_some hu w2)).trans (h4 w2 he)⟩
def lenFlat (P : Program) (t : TypeId) : Bool := match P.underlying t with | some (.slice _) => true | some .string => true | some (.array _ _) => true | _ => false
theorem flat_len {t : TypeId} {ts : Array TypeId} {ty : TypeId} {args : Array Value} (ht : ts[0]? = some t) (h : lenFlat P t = true) : Flat P (Builtin.len_ ts ty args) := by
  unfold Builtin.len_
  rw [ht]
  cases ha : args[0]? with
  | none => exact (dead_stuck _).flat
  | some v =>
    dsimp only
    unfold lenFlat at h
    split at h
    · rename_i hu; exact Flat.bindU hu (by split <;> first | exact Flat.pure _ | exact (dead_stuck _).flat | contradiction)
    · rename_i hu; exact Flat.bindU hu (by split <;> first | exact Flat.pure _ | exact (dead_stuck _).flat | contradiction)
    · rename_i hu; exact Flat.bindU hu (Flat.pure _)
    · cases h
theorem flat_cap {t : TypeId} {ts : Array TypeId} {ty : TypeId} {args : Array Value} (ht : ts[0]? = some t) (h : (match P.underlying t with | some (.slice _) => true | _ => false) = true) : Flat P (Builtin.cap_ ts ty args) := by
  unfold Builtin.cap_
  rw [ht]
  cases ha : args[0]? with
  | none => exact (dead_stuck _).flat
  | some v =>
    dsimp only
    split at h
    · rename_i hu; exact Flat.bindU hu (by split <;> first | exact Flat.pure _ | exact (dead_stuck _).flat | contradiction)
    · cases h
def convOK (P : Program) (dst : TypeId) : Value → Bool
  | .int _ _ => match P.underlying dst with | some (.int _) => true | _ => false
  | .string _ => match P.underlying dst with | some .string => true | _ => false
  | _ => false
theorem flat_convert {src dst : TypeId} {x : Value} (h : convOK P dst x = true) : Flat P (convert src dst x) := by
  unfold convert
  refine (flat_underlying src).bind fun s => ?_
  cases x <;> simp only [convOK, Bool.false_eq_true] at h <;> split at h <;> first | cases h | skip
  · rename_i hu; exact Flat.bindU hu (Flat.pure _)
  · rename_i hu; exact Flat.bindU hu (Flat.pure _)
theorem flat_min2 {x y : Value} (hx : plainC x = true) (hy : plainC y = true) : Flat P (Builtin.min2 x y) := by
  cases x <;> simp only [plainC, Bool.false_eq_true] at hx <;> cases y <;> simp only [plainC, Bool.false_eq_true] at hy <;> unfold Builtin.min2 <;> first
    | exact Flat.pure _
    | exact (dead_stuck _).flat
    | exact Flat.bind (Flat.bind (flat_stringOp _ _ _) fun _ => flat_asBool _) fun _ => Flat.pure _
    | exact Flat.bind (flat_stringOp _ _ _) fun _ => Flat.bind (flat_asBool _) fun _ => Flat.pure _

/-! ### Reading memory -/
end
end Go.Lex
/-
  A region that draws its order, walked in the order of the text: the main theorem.
-/
set_option linter.unusedSimpArgs false
set_option linter.unusedVariables false
namespace Go.Lex
section
variable {P : Program} {α β : Type}
theorem seen_none {w : World} {at_ : Addr} {u : TypeId} {a : Addr} {b : Bool} {x : Array Value × TypeId × (Nat × Nat) × Nat × Value × List (Nat × Nat × List UInt8)} (hb : w.heap[at_.block]? = none) : w.seen P at_ u a b ≠ .ok x := by
  unfold World.seen
  rw [hb]
  have ht : ∀ (α : Type) (s : String), (MonadExcept.throw s : Except String α) = Except.error s := fun _ _ => rfl
  simp only [bind, Except.bind, ht]
  repeat' (first | (intro hx; cases hx; done) | exact Except.noConfusion | (simp; done) | split)
theorem farLoad_ext {w w2 : World} {a : Addr} {b : Bool} {r : Value × List Addr} (he : Ext w w2) (h : w.farLoad P a b = .ok r) : w2.farLoad P a b = .ok r := by
  unfold World.farLoad at h ⊢
  cases ho : w.heap[a.block]? with
  | none => rw [ho] at h; cases h
  | some o =>
    rw [ho] at h; rw [he.block ho]
    cases o <;> simp only at h ⊢ <;> first | cases h | skip
    rename_i at_ u
    cases hv : w.viewLoad P at_ u a b with
    | error e => rw [hv] at h; cases h
    | ok y =>
      rw [hv] at h
      have hv2 : w2.viewLoad P at_ u a b = .ok y := by
        unfold World.viewLoad at hv ⊢
        cases hb : w.heap[at_.block]? with
        | some o =>
          have : w2.seen P at_ u a b = w.seen P at_ u a b := by unfold World.seen; rw [hb, he.block hb]
          rw [this]; exact hv
        | none =>
          exfalso
          cases hs : w.seen P at_ u a b with
          | error e => rw [hs] at hv; cases hv
          | ok z => exact seen_none hb hs
      rw [hv2]; exact h
theorem cell_none_ext {w w2 : World} {a : Addr} {b : Bool} {r : Value × List Addr} (he : Ext w w2) (hc : w.cell? a = none) (h : w.farLoad P a b = .ok r) : w2.cell? a = none := by
  unfold World.farLoad at h
  unfold World.cell? at hc ⊢
  cases ho : w.heap[a.block]? with
  | none => rw [ho] at h; cases h
  | some o => rw [ho] at hc; rw [he.block ho]; exact hc
theorem calm_load (a : Addr) : Calm P (load a) := fun w x w' hr => by
  simp only [load, Sem.run] at hr
  cases hc : w.cell? a with
  | some v =>
    rw [hc] at hr
    simp only [Result.ok.injEq] at hr
    obtain ⟨rfl, rfl⟩ := hr
    exact ⟨rfl, fun w2 he => by simp only [load, Sem.run]; rw [he.cell hc]⟩
  | none =>
    rw [hc] at hr
    simp only at hr
    cases hf : w.farLoad P a (Mode.plain == .atomic) with
    | error e => rw [hf] at hr; cases hr
    | ok r =>
      rw [hf] at hr
      simp only [Result.ok.injEq] at hr
      obtain ⟨rfl, rfl⟩ := hr
      exact ⟨rfl, fun w2 he => by simp only [load, Sem.run]; rw [cell_none_ext he hc hf]; simp only [farLoad_ext he hf]⟩
theorem calm_loadCellsFrom (a : Addr) : ∀ (n i : Nat) (acc : Array Value), Calm P (loadCellsFrom a i n acc)
  | 0, i, acc => (Flat.pure _).calm
  | n + 1, i, acc => by
    unfold loadCellsFrom
    exact (calm_load _).bind fun _ => calm_loadCellsFrom a n _ _
theorem calm_loadVar (t : TypeId) (a : Addr) : Calm P (loadVar t a) := by
  unfold loadVar
  refine (flat_isAgg t).calm.bind fun b => ?_
  split
  · exact (flat_sizeOf t).calm.bind fun n => Calm.bind (calm_loadCellsFrom _ _ _ _) fun _ => (Flat.pure _).calm
  · exact calm_load a
theorem calm_loadAt (t : TypeId) (v : Value) : Calm P (Instr.loadAt t v) := (flat_sureAddr v).calm.bind fun a => calm_loadVar t a

/-! ### Making memory -/
theorem grows_newObj (o : Obj) : Grows P (newObj o) := fun w x w' hr => by
  simp only [newObj, Sem.run, Result.ok.injEq] at hr
  obtain ⟨rfl, rfl⟩ := hr
  intro i hi
  simp only [Array.getElem?_push]
  rw [if_neg (by omega)]
theorem grows_newRow (e : TypeId) (c : Array Value) : Grows P (newRow e c) := (grows_newObj _).bind fun _ => (Flat.pure _).calm.grows
theorem grows_newVar (e : TypeId) (v : Value) : Grows P (newVar e v) := grows_newRow _ _
theorem grows_alloc (e : TypeId) : Grows P (Instr.alloc e true (.tuple #[])) := by
  unfold Instr.alloc
  refine (flat_zeroValue _).calm.grows.bind fun z => ?_
  exact (grows_newVar _ _).bind fun _ => (Flat.pure _).calm.grows
theorem grows_box (e : TypeId) (v : Value) : Grows P (Instr.box e v) := (grows_newVar _ _).bind fun _ => (Flat.pure _).calm.grows
theorem grows_buildSlice (t : TypeId) (n : Nat) (ps : Array (Nat × Value)) : Grows P (Instr.buildSlice t n ps) := by
  unfold Instr.buildSlice
  repeat' (first
    | exact (Flat.pure _).calm.grows | exact (dead_stuck _).grows | exact ((dead_unsupported _).bind).grows | exact (flat_underlying _).calm.grows | exact (flat_sizeOf _).calm.grows | exact (flat_zeroValue _).calm.grows | exact grows_newRow _ _
    | refine Grows.bind ?_ fun _ => ?_
    | split
    | (dsimp only))
theorem grows_choose (q : Question) : Grows P (choose q) := fun w x w' hr => by
  simp only [choose, Sem.run] at hr
  split at hr <;> simp only [Result.ok.injEq] at hr <;> obtain ⟨_, rfl⟩ := hr
  · exact Ext.refl _
  · exact fun _ _ => rfl
theorem grows_makeSlice (t : TypeId) (n c : Value) : Grows P (Instr.makeSlice t n c) := by
  unfold Instr.makeSlice
  repeat' (first
    | exact (Flat.pure _).calm.grows | exact (dead_stuck _).grows | exact (dead_runtimePanic _).grows | exact ((dead_runtimePanic _).bind).grows | exact ((dead_unsupported _).bind).grows | exact (flat_underlying _).calm.grows | exact (flat_typeInfo _).calm.grows
    | exact (flat_asInt _).calm.grows | exact (flat_sizeOf _).calm.grows | exact (flat_zeroValue _).calm.grows | exact grows_newRow _ _ | exact grows_choose _ | exact (flat_mark _).calm.grows
    | refine Grows.bind ?_ fun _ => ?_
    | split
    | (unfold askRoom)
    | (dsimp only)
    | (intro __do_jp))
theorem grows_makeMap (t : TypeId) (r : Option Value) : Grows P (Instr.makeMap t r) := by
  unfold Instr.makeMap
  repeat' (first
    | exact (Flat.pure _).calm.grows | exact (dead_stuck _).grows | exact ((dead_stuck _).bind).grows | exact (flat_underlying _).calm.grows
    | exact (flat_asInt _).calm.grows | exact grows_newObj _
    | refine Grows.bind ?_ fun _ => ?_
    | split
    | (dsimp only)
    | (intro __do_jp))
end
end Go.Lex
/-
  A region that draws its order, walked in the order of the text: kinds of operations, and the main theorem.
-/
set_option linter.unusedSimpArgs false
set_option linter.unusedVariables false
namespace Go.Lex
section
variable {P : Program}

def capFlat (P : Program) (t : TypeId) : Bool := match P.underlying t with | some (.slice _) => true | _ => false
/-- 0: its outcome hangs on its operands alone; 1: it reads cells; 2: it makes a block; 3: all else. -/
def kind (P : Program) : Op → Nat
  | .move _ => 0
  | .assign _ => 0
  | .pick .. => 0
  | .nilCheck _ => 0
  | .indexAddr .. => 0
  | .field .. => 0
  | .extract .. => 0
  | .unOp .. => 0
  | .slice .. => 0
  | .index .. => 0
  | .makeInterface .. => 0
  | .makeFunc .. => 0
  | .build .. => 0
  | .binOp .. => 0
  | .convert .. => 0
  | .fieldAddr s _ f => if fieldSolid P s f then 0 else 3
  | .load .. => 1
  | .alloc _ => 2
  | .box .. => 2
  | .buildSlice .. => 2
  | .makeSlice .. => 2
  | .makeMap .. => 2
  | .call c => match c.callee with
    | .builtin .len => match c.argTypes[0]? with
      | some t => if lenFlat P t then 0 else 3
      | none => 3
    | .builtin .cap => match c.argTypes[0]? with
      | some t => if capFlat P t then 0 else 3
      | none => 3
    | _ => 3
  | _ => 3

/-- What an operation of kind 0 asks of its operands' values. -/
def dyn (P : Program) (op : Op) (ev : Operand → Value) : Bool :=
  match op with
  | .binOp b _ x y _ => okPair b (ev x) (ev y)
  | .convert _ d x => convOK P d (ev x)
  | _ => true

theorem dyn_congr {op : Op} {ev ev' : Operand → Value} (h : ∀ x ∈ op.operands, ev x = ev' x) : dyn P op ev = dyn P op ev' := by
  cases op <;> simp only [Op.operands] at h <;> simp only [dyn]
  case binOp b t x y u => rw [h x (by simp), h y (by simp)]
  case convert s d x => rw [h x (by simp)]

/-- an outcome is a value -/
def Valued (P : Program) (s : Sem Next) : Prop := ∀ w x w', s.run P w = .ok x w' → ∃ v, x = .value v
theorem valued_v (s : Sem Value) : Valued P (do pure (.value (← s))) := fun w x w' hr => by
  obtain ⟨v, w1, _, h2⟩ := bind_ok hr
  simp only [Sem.run_pure, Result.ok.injEq] at h2
  exact ⟨v, h2.1.symm⟩
theorem Dead.valued {s : Sem Next} (h : Dead P s) : Valued P s := fun _ _ _ hr => absurd hr (h _ _ _)
theorem flat_v {s : Sem Value} (h : Flat P s) : Flat P (do pure (.value (← s)) : Sem Next) := h.bind fun _ => Flat.pure _
theorem calm_v {s : Sem Value} (h : Calm P s) : Calm P (do pure (.value (← s)) : Sem Next) := h.bind fun _ => (Flat.pure _).calm
theorem grows_v {s : Sem Value} (h : Grows P s) : Grows P (do pure (.value (← s)) : Sem Next) := h.bind fun _ => (Flat.pure _).calm.grows

theorem call_len {ρ : Operand → Value} {c : Call} {ty : TypeId} {t : TypeId} (hc : c.callee = .builtin .len) (ht : c.argTypes[0]? = some t) (h : lenFlat P t = true) :
    Flat P (do let d ← resolve ρ c ty; invoke d.target d.args) ∧ Valued P (do let d ← resolve ρ c ty; invoke d.target d.args) := by
  have e : (do let d ← resolve ρ c ty; invoke d.target d.args : Sem Next) = (do pure (.value (← Builtin.len_ c.argTypes ty (c.args.map ρ)))) := by
    unfold resolve; rw [hc]; simp only [pure_bind, invoke, builtin]
  rw [e]
  exact ⟨flat_v (flat_len ht h), valued_v _⟩
theorem call_cap {ρ : Operand → Value} {c : Call} {ty : TypeId} {t : TypeId} (hc : c.callee = .builtin .cap) (ht : c.argTypes[0]? = some t) (h : capFlat P t = true) :
    Flat P (do let d ← resolve ρ c ty; invoke d.target d.args) ∧ Valued P (do let d ← resolve ρ c ty; invoke d.target d.args) := by
  have e : (do let d ← resolve ρ c ty; invoke d.target d.args : Sem Next) = (do pure (.value (← Builtin.cap_ c.argTypes ty (c.args.map ρ)))) := by
    unfold resolve; rw [hc]; simp only [pure_bind, invoke, builtin]
  rw [e]
  exact ⟨flat_v (flat_cap ht h), valued_v _⟩
theorem flat_of_kind {ρ : Operand → Value} {o : Oper} (hk : kind P o.op = 0) (hd : dyn P o.op ρ = true) : Flat P (execOp ρ o) ∧ Valued P (execOp ρ o) := by
  obtain ⟨dst, op, ty, pos, after, guard⟩ := o
  cases op <;> simp only [kind] at hk <;> (try cases hk) <;> simp only [execOp]
  case move x => exact ⟨Flat.pure _, fun w x w' hr => by simp only [Sem.run_pure, Result.ok.injEq] at hr; exact ⟨_, hr.1.symm⟩⟩
  case assign x => exact ⟨Flat.pure _, fun w x w' hr => by simp only [Sem.run_pure, Result.ok.injEq] at hr; exact ⟨_, hr.1.symm⟩⟩
  case pick c a b =>
    refine ⟨(flat_asBool _).bind fun _ => Flat.pure _, fun w x w' hr => ?_⟩
    obtain ⟨v, w1, _, h2⟩ := bind_ok hr
    simp only [Sem.run_pure, Result.ok.injEq] at h2
    exact ⟨_, h2.1.symm⟩
  case build t ps => exact ⟨flat_v (flat_build _ _), valued_v _⟩
  case nilCheck x =>
    refine ⟨?_, ?_⟩
    · split
      all_goals first
        | exact (dead_runtimePanic _).flat
        | exact Flat.pure _
        | (split
           all_goals first
             | exact (dead_runtimePanic _).flat
             | exact Flat.pure _
             | (refine flat_program.bind fun p => (flat_nilAhead _ _ _ _).bind fun r => ?_
                split
                · exact ((dead_unsupported _).bind).flat
                · exact Flat.pure _))
    · intro w x w' hr
      split at hr
      all_goals first
        | exact absurd hr (dead_runtimePanic _ _ _ _)
        | (simp only [Sem.run_pure, Result.ok.injEq] at hr; exact ⟨_, hr.1.symm⟩)
        | (split at hr
           all_goals first
             | exact absurd hr (dead_runtimePanic _ _ _ _)
             | (simp only [Sem.run_pure, Result.ok.injEq] at hr; exact ⟨_, hr.1.symm⟩)
             | (obtain ⟨p, w1, _, h2⟩ := bind_ok hr
                obtain ⟨r, w2, _, h3⟩ := bind_ok h2
                split at h3
                · exact absurd h3 ((dead_unsupported _).bind _ _ _)
                · simp only [Sem.run_pure, Result.ok.injEq] at h3; exact ⟨_, h3.1.symm⟩))
  case binOp b t x y u => exact ⟨flat_v ((flat_eqGuard _ _ _ _ _ _).bind fun _ => flat_binOp hd), valued_v _⟩
  case unOp u t x => exact ⟨flat_v (flat_unary _ _), valued_v _⟩
  case convert s d x => exact ⟨flat_v (flat_convert hd), valued_v _⟩
  case makeInterface t x => exact ⟨flat_v (flat_makeInterface _ _), valued_v _⟩
  case makeFunc fn f c => exact ⟨flat_v (Flat.pure _), valued_v _⟩
  case slice t x lo hi mx => exact ⟨flat_v (flat_sliceAt _ _ _ _ _), valued_v _⟩
  case fieldAddr s x f =>
    split at hk
    · rename_i hs; exact ⟨flat_v (flat_fieldAt _ _ _ hs), valued_v _⟩
    · cases hk
  case field t x f => exact ⟨flat_v (flat_field _ _ _), valued_v _⟩
  case indexAddr t x i => exact ⟨flat_v (flat_indexAt _ _ _), valued_v _⟩
  case index t x i => exact ⟨flat_v (flat_index _ _ _), valued_v _⟩
  case extract t i => exact ⟨flat_v (flat_extract _ _), valued_v _⟩
  case call c =>
    split at hk
    · rename_i hc
      split at hk
      · rename_i ht
        split at hk
        · rename_i hl; exact call_len hc ht hl
        · cases hk
      · cases hk
    · rename_i hc
      split at hk
      · rename_i ht
        split at hk
        · rename_i hl; exact call_cap hc ht hl
        · cases hk
      · cases hk
    · cases hk
theorem calm_of_kind {ρ : Operand → Value} {o : Oper} (hk : kind P o.op ≤ 1) (hd : dyn P o.op ρ = true) : Calm P (execOp ρ o) ∧ Valued P (execOp ρ o) := by
  rcases Nat.lt_or_ge (kind P o.op) 1 with h | h
  · have := flat_of_kind (ρ := ρ) (by omega) hd
    exact ⟨this.1.calm, this.2⟩
  · have h1 : kind P o.op = 1 := by omega
    obtain ⟨dst, op, ty, pos, after, guard⟩ := o
    cases op <;> simp only [kind] at h1 <;> (try (exfalso; omega)) <;> simp only [execOp]
    case load t x => exact ⟨calm_v (calm_loadAt _ _), valued_v _⟩
    case fieldAddr s x f => split at h1 <;> omega
    case call c =>
      split at h1
      · split at h1
        · split at h1 <;> omega
        · omega
      · split at h1
        · split at h1 <;> omega
        · omega
      · omega
theorem grows_of_kind {ρ : Operand → Value} {o : Oper} (hk : kind P o.op ≤ 2) (hd : dyn P o.op ρ = true) : Grows P (execOp ρ o) ∧ Valued P (execOp ρ o) := by
  rcases Nat.lt_or_ge (kind P o.op) 2 with h | h
  · have := calm_of_kind (ρ := ρ) (by omega) hd
    exact ⟨this.1.grows, this.2⟩
  · have h1 : kind P o.op = 2 := by omega
    obtain ⟨dst, op, ty, pos, after, guard⟩ := o
    cases op <;> simp only [kind] at h1 <;> (try (exfalso; omega)) <;> simp only [execOp]
    case alloc t => exact ⟨grows_v (grows_alloc _), valued_v _⟩
    case box t x => exact ⟨grows_v (grows_box _ _), valued_v _⟩
    case buildSlice t n ps => exact ⟨grows_v (grows_buildSlice _ _ _), valued_v _⟩
    case makeMap t r => exact ⟨grows_v (grows_makeMap _ _), valued_v _⟩
    case makeSlice t n c => exact ⟨grows_v (grows_makeSlice _ _ _), valued_v _⟩
    case fieldAddr s x f => split at h1 <;> omega
    case call c =>
      split at h1
      · split at h1
        · split at h1 <;> omega
        · omega
      · split at h1
        · split at h1 <;> omega
        · omega
      · omega
end
end Go.Lex
/-
  A region that draws its order, walked in the order of the text: the main theorem.
-/
set_option linter.unusedSimpArgs false
set_option linter.unusedVariables false
namespace Go.Lex
section
variable {P : Program} {ops : Array Oper} {L : Act → World → Prop}

/-- The way on, and no other way out. -/
def SQ (L : Act → World → Prop) : Exit → Act → World → Prop
  | .normal, a, w => L a w
  | _, _, _ => False
theorem not_letsOut : ¬ LetsOut (SQ L) := fun ⟨_, _, h⟩ => h

def op' (P : Program) (ops : Array Oper) (L : Act → World → Prop) (i : Nat) (K : Act → World → Prop) (a : Act) (w : World) : Prop :=
  match ops[i]? with
  | none => False
  | some o => if Region.wanted o (yielded ops a.tmps) = true then dyn P o.op a.eval = true ∧ o.wp P a w K (SQ L) else K (a.put o.dst undef) w

def any' (P : Program) (ops : Array Oper) (L : Act → World → Prop) : Nat → Array Bool → Act → World → Prop
  | 0, listed, a, w => Region.ready .any ops listed = [] ∧ L a w
  | n + 1, listed, a, w => (Region.ready .any ops listed = [] → L a w) ∧ ∀ i ∈ Region.ready .any ops listed, op' P ops L i (any' P ops L n (listed.setIfInBounds i true)) a w

theorem op'_mono {i : Nat} {K K' : Act → World → Prop} {a : Act} {w : World} (h : ∀ a w, K a w → K' a w) (hh : op' P ops L i K a w) : op' P ops L i K' a w := by
  unfold op' at *
  split at hh
  · exact hh
  · rename_i o ho
    split at hh
    · rename_i hw; rw [if_pos hw]; exact ⟨hh.1, Oper.wp_mono h hh.2⟩
    · rename_i hw; rw [if_neg hw]; exact h _ _ hh
theorem any'_wpAny : ∀ (n : Nat) (listed : Array Bool) (a : Act) (w : World), any' P ops L n listed a w → wpAny P .any ops (SQ L) n listed a w
  | 0, _, _, _, h => h
  | n + 1, listed, a, w, h => ⟨h.1, fun i hi => by
      have hh := op'_mono (fun a w => any'_wpAny n (listed.setIfInBounds i true) a w) (h.2 i hi)
      unfold op' at hh
      unfold wpOp
      split at hh
      · exact hh.elim
      · rename_i o ho
        rw [ho]; dsimp only
        split at hh
        · rename_i hw; rw [if_pos hw]; exact .inl hh.2
        · rename_i hw; rw [if_neg hw]; exact hh⟩

theorem eval_defers (a : Act) (ds : List Deferred) : ({ a with defers := ds } : Act).eval = a.eval := by funext x; cases x <;> rfl

/-- An operation has an outcome. -/
theorem wp_outcome {o : Oper} {K : Act → World → Prop} {a : Act} {w : World} (h : o.wp P a w K (SQ L)) : ∃ ds u w', K (({ a with defers := ds } : Act).put o.dst u) w' := by
  unfold Oper.wp at h
  generalize (execOp a.eval o).run P w = r at h
  cases r with
  | ok n w' =>
    cases n <;> simp only [Oper.upon] at h
    case value v => exact ⟨a.defers, v, w', h⟩
    case skip => exact ⟨a.defers, undef, w', h⟩
    case defer d => exact ⟨d :: a.defers, undef, w', h⟩
    case enter f args =>
      obtain ⟨e, w'', fr, hR, _⟩ := h []
      cases e with
      | returned v => exact ⟨a.defers, v, w'', hR⟩
      | panicked c => exact (hR : False).elim
      | outgrown => exact (not_letsOut hR).elim
    case row row args =>
      obtain ⟨v, w'', hR, _⟩ := h default []
      exact ⟨a.defers, v, w'', hR⟩
  | halt x w' =>
    cases x <;> simp only [Oper.upon] at h
    case panic v => exact (h : False).elim

/-- 'o' yields v in every world that C lets follow. -/
def Y (P : Program) (ops : Array Oper) (C : World → World → Prop) (o : Oper) (v : Value) (a : Act) (w : World) : Prop :=
  (Region.wanted o (yielded ops a.tmps) = true ∧ dyn P o.op a.eval = true ∧ ∀ w2, C w w2 → (execOp a.eval o).run P w2 = .ok (.value v) w2) ∨
  (Region.wanted o (yielded ops a.tmps) = false ∧ v = undef)

def Any : World → World → Prop := fun _ _ => True

theorem Y.op' {C : World → World → Prop} {i : Nat} {o : Oper} {v : Value} {a : Act} {w : World} {K : Act → World → Prop} (hi : ops[i]? = some o) (hy : Y P ops C o v a w) (hr : C w w) (h : K (a.put o.dst v) w) : op' P ops L i K a w := by
  unfold Lex.op'
  rw [hi]; dsimp only
  rcases hy with ⟨hw, hd, hv⟩ | ⟨hw, rfl⟩
  · rw [if_pos hw]; exact ⟨hd, by unfold Oper.wp; rw [hv w hr]; exact h⟩
  · rw [if_neg (by simp [hw])]; exact h
theorem Y.mono {C : World → World → Prop} (ht : ∀ x y z, C x y → C y z → C x z) {o : Oper} {v : Value} {a : Act} {w w' : World} (h : C w w') (hy : Y P ops C o v a w) : Y P ops C o v a w' := by
  rcases hy with ⟨hw, hd, hv⟩ | hy
  · exact .inl ⟨hw, hd, fun w2 h2 => hv w2 (ht _ _ _ h h2)⟩
  · exact .inr hy

theorem dyn_put {o : Oper} {a : Act} {dst : Option Tmp} {v : Value} (h : ∀ d, dst = some d → d ∉ o.looksAt ops) : dyn P o.op (a.put dst v).eval = dyn P o.op a.eval :=
  dyn_congr fun x hx => Act.eval_put fun d hd hxd => h d hd (by
    subst hxd
    exact List.mem_append_left _ (List.mem_filterMap.2 ⟨.tmp d, by simpa using hx, rfl⟩))

theorem noSelect_of {o : Oper} (h : kind P o.op ≤ 2) : ∀ cs b, o.op ≠ .select cs b := fun cs b he => by rw [he] at h; simp [kind] at h

theorem Y.put {C : World → World → Prop} {oi oj : Oper} {v : Value} {a : Act} {w : World} (hsi : ∀ cs b, oi.op ≠ .select cs b) (h3 : ∀ d, oj.dst = some d → d ∉ oi.looksAt ops) (hy : Y P ops C oi v a w) (ds : List Deferred) (u : Value) :
    Y P ops C oi v (({ a with defers := ds } : Act).put oj.dst u) w := by
  unfold Y at *
  rw [execOp_put oi hsi _ oj.dst u h3, wanted_put oi _ oj.dst u h3, dyn_put h3, eval_defers]
  exact hy

/-- Either every world may follow, or the operation leaves the world as it is but for new blocks. -/
def Resp (P : Program) (C : World → World → Prop) (o : Oper) : Prop := (∀ w w', C w w') ∨ (kind P o.op ≤ 2 ∧ ∀ w w', Ext w w' → C w w')

/-- 'i' has yielded; then 'j' may go first as well. -/
theorem op'_put {C : World → World → Prop} (_hrefl : ∀ w, C w w) (ht : ∀ x y z, C x y → C y z → C x z) {j : Nat} {oi oj : Oper} {v : Value} (hj : ops[j]? = some oj) (hap : oi.apart ops oj = true)
    (hsi : ∀ cs b, oi.op ≠ .select cs b) (hsj : ∀ cs b, oj.op ≠ .select cs b) (hresp : Resp P C oj) {K : Act → World → Prop} {a : Act} {w : World}
    (hy : Y P ops C oi v a w) (h : op' P ops L j K (a.put oi.dst v) w) : op' P ops L j (fun a' w' => Y P ops C oi v a' w' ∧ K (a'.put oi.dst v) w') a w := by
  obtain ⟨h1, h2, h3⟩ := Oper.apart_spec hap
  have keep : ∀ ds u, Y P ops C oi v (({ a with defers := ds } : Act).put oj.dst u) w := fun ds u => hy.put hsi h3 ds u
  unfold op' at *
  rw [hj] at h ⊢; dsimp only at h ⊢
  rw [wanted_put oj a oi.dst v h1, dyn_put h1] at h
  split
  · rename_i hw
    rw [if_pos hw] at h
    refine ⟨h.1, ?_⟩
    obtain ⟨hd, h⟩ := h
    have hC : ∀ x w', (execOp a.eval oj).run P w = .ok x w' → ((∃ u, x = .value u) ∧ C w w') ∨ (∀ w w', C w w') := fun x w' hr => by
      rcases hresp with hall | ⟨hk, hE⟩
      · exact .inr hall
      · have hg := grows_of_kind (P := P) (ρ := a.eval) hk hd
        exact .inl ⟨hg.2 _ _ _ hr, hE _ _ (hg.1 _ _ _ hr)⟩
    unfold Oper.wp at *
    rw [execOp_put oj hsj a oi.dst v h1] at h
    generalize hrun : (execOp a.eval oj).run P w = r at *
    cases r with
    | ok n w' =>
      have hCn := hC n w' rfl
      cases n <;> simp only [Oper.upon] at h ⊢
      case value u =>
        have hww : C w w' := hCn.elim (fun x => x.2) (fun x => x _ _)
        exact ⟨(keep a.defers u).mono ht hww, by rw [← Act.put_comm a v u h2]; exact h⟩
      case skip =>
        have hww : C w w' := hCn.elim (fun x => x.2) (fun x => x _ _)
        exact ⟨(keep a.defers undef).mono ht hww, by rw [← Act.put_comm a v undef h2]; exact h⟩
      case defer d =>
        have hww : C w w' := hCn.elim (fun x => x.2) (fun x => x _ _)
        refine ⟨(keep _ _).mono ht hww, ?_⟩
        rw [← Act.put_comm _ v undef h2, ← Act.put_defers]
        exact h
      case enter f args =>
        have hall : ∀ w w', C w w' := hCn.elim (fun x => by obtain ⟨⟨u, hu⟩, _⟩ := x; cases hu) id
        refine Calls.mono h fun e w'' he => ?_
        cases e with
        | returned u => exact ⟨(keep a.defers u).mono ht (hall _ _), by rw [← Act.put_comm a v u h2]; exact he⟩
        | panicked c => exact he
        | outgrown => exact he
      case row row args =>
        have hall : ∀ w w', C w w' := hCn.elim (fun x => by obtain ⟨⟨u, hu⟩, _⟩ := x; cases hu) id
        exact Rows.mono h fun u w'' he => ⟨(keep a.defers u).mono ht (hall _ _), by rw [← Act.put_comm a v u h2]; exact he⟩
    | halt x w' =>
      cases x <;> simp only [Oper.upon] at h ⊢
      case panic u => exact h
  · rename_i hw
    rw [if_neg hw] at h
    exact ⟨keep a.defers undef, by rw [← Act.put_comm a v undef h2]; exact h⟩

/-- The other way: 'j' (which yields v whatever the world) goes first, 'i' behind it. -/
theorem op'_swap {i : Nat} {oi : Oper} {oj : Oper} {v : Value} (hi : ops[i]? = some oi) (hap : oj.apart ops oi = true) (hsi : ∀ cs b, oi.op ≠ .select cs b) {K : Act → World → Prop} {a : Act} {w : World}
    (h : op' P ops L i (fun a' w' => K (a'.put oj.dst v) w') a w) : op' P ops L i K (a.put oj.dst v) w := by
  obtain ⟨h1, h2, _⟩ := Oper.apart_spec hap
  unfold op' at *
  rw [hi] at h ⊢; dsimp only at h ⊢
  rw [wanted_put oi a oj.dst v h1, dyn_put h1]
  split at h
  · rename_i hw
    rw [if_pos hw]
    refine ⟨h.1, ?_⟩
    replace h := h.2
    unfold Oper.wp at *
    rw [execOp_put oi hsi a oj.dst v h1]
    generalize (execOp a.eval oi).run P w = r at *
    cases r with
    | ok n w' =>
      cases n <;> simp only [Oper.upon] at h ⊢
      case value u => rw [Act.put_comm a v u h2]; exact h
      case skip => rw [Act.put_comm a v undef h2]; exact h
      case defer d => rw [Act.put_defers, Act.put_comm _ v undef h2]; exact h
      case enter f args =>
        refine Calls.mono h fun e w'' he => ?_
        cases e with
        | returned u => show K _ _; rw [Act.put_comm a v u h2]; exact he
        | panicked c => exact he
        | outgrown => exact he
      case row row args => exact Rows.mono h fun u w'' he => by show K _ _; rw [Act.put_comm a v u h2]; exact he
    | halt x w' =>
      cases x <;> simp only [Oper.upon] at h ⊢
      case panic u => exact h
  · rename_i hw
    rw [if_neg hw, Act.put_comm a v undef h2]
    exact h

/-! ### Who may come while 'i' waits -/
def predsIn (ops : Array Oper) (R : Array Bool) (j : Nat) : Bool := ((ops[j]?).map (·.after.all fun e => !Region.binds .any e || R.getD e.on false)).getD false
def reach (ops : Array Oper) (listed : Array Bool) (i : Nat) : Array Bool :=
  (List.range ops.size).foldl (fun R j => R.setIfInBounds j (listed.getD j false || (j != i && predsIn ops R j))) (Array.replicate ops.size false)
/-- R holds what is listed, not i, and with what an operation waits for the operation. -/
def cert (ops : Array Oper) (listed : Array Bool) (i : Nat) (R : Array Bool) : Bool :=
  !R.getD i false && (List.range ops.size).all fun j => (!listed.getD j false || R.getD j false) && (j == i || !predsIn ops R j || R.getD j false)
def Within (listed R : Array Bool) : Prop := ∀ j, listed.getD j false = true → R.getD j false = true

theorem getD_lt {R : Array Bool} {j : Nat} (h : R.getD j false = true) : j < R.size := by
  rcases Nat.lt_or_ge j R.size with hl | hl
  · exact hl
  · simp [Array.getElem?_eq_none hl] at h
theorem ready_within {listed R : Array Bool} {i j : Nat} (hc : ∀ j, j < ops.size → j ≠ i → predsIn ops R j = true → R.getD j false = true) (hw : Within listed R) (hj : j ∈ Region.ready .any ops listed) (hne : j ≠ i) : R.getD j false = true := by
  obtain ⟨_, o, ho, hall⟩ := mem_ready.1 hj
  refine hc j (Array.getElem?_eq_some_iff.1 ho).1 hne ?_
  unfold predsIn
  rw [ho]
  simp only [Option.map_some, Option.getD_some, Array.all_eq_true_iff_forall_mem, Bool.or_eq_true, Bool.not_eq_true']
  intro e he
  cases hb : Region.binds .any e
  · exact .inl rfl
  · exact .inr (hw _ (hall e he hb))
theorem Within.set {listed R : Array Bool} {j : Nat} (hw : Within listed R) (hj : R.getD j false = true) : Within (listed.setIfInBounds j true) R := fun k hk => by
  by_cases hkj : j = k
  · subst hkj; exact hj
  · rw [getD_set_ne false hkj] at hk; exact hw k hk

/-- What may come before 'i' is apart from it. -/
def condQ (P : Program) (ops : Array Oper) (oi : Oper) (q : Nat) (j : Nat) : Bool :=
  match ops[j]? with
  | some oj => oi.apart ops oj && oj.apart ops oi && decide (kind P oj.op ≤ q) && (match oj.op with | .select .. => false | _ => true)
  | none => true
def okAt (P : Program) (ops : Array Oper) (listed : Array Bool) (i : Nat) : Bool :=
  match ops[i]? with
  | none => false
  | some oi =>
    let R := reach ops listed i
    cert ops listed i R &&
    (match oi.op with | .select .. => false | _ => true) &&
    (List.range ops.size).all fun j => !R.getD j false || listed.getD j true || condQ P ops oi (match kind P oi.op with | 0 => 3 | 1 => 2 | _ => 0) j

theorem cert_spec {listed R : Array Bool} {i : Nat} (h : cert ops listed i R = true) :
    R.getD i false = false ∧ (∀ j, j < ops.size → listed.getD j false = true → R.getD j false = true) ∧ ∀ j, j < ops.size → j ≠ i → predsIn ops R j = true → R.getD j false = true := by
  unfold cert at h
  simp only [Bool.and_eq_true, Bool.not_eq_true', List.all_eq_true, List.mem_range, Bool.or_eq_true, beq_iff_eq] at h
  refine ⟨h.1, fun j hj hl => ?_, fun j hj hne hp => ?_⟩
  · rcases (h.2 j hj).1 with h1 | h1
    · rw [hl] at h1; cases h1
    · exact h1
  · rcases (h.2 j hj).2 with (h1 | h1) | h1
    · exact absurd h1 hne
    · rw [hp] at h1; cases h1
    · exact h1

/-- The check at 'i' and what it says of whoever may come before it. -/
structure Before (P : Program) (ops : Array Oper) (oi : Oper) (i q : Nat) (R listed : Array Bool) : Prop where
  inR : Within listed R
  notI : R.getD i false = false
  closed : ∀ j, j < ops.size → j ≠ i → predsIn ops R j = true → R.getD j false = true
  cond : ∀ j oj, ops[j]? = some oj → R.getD j false = true → listed.getD j true = false → oi.apart ops oj = true ∧ oj.apart ops oi = true ∧ kind P oj.op ≤ q ∧ ∀ cs b, oj.op ≠ .select cs b

theorem Before.set {oi : Oper} {i q j : Nat} {R listed : Array Bool} (h : Before P ops oi i q R listed) (hj : j ∈ Region.ready .any ops listed) (hne : j ≠ i) : Before P ops oi i q R (listed.setIfInBounds j true) :=
  ⟨h.inR.set (ready_within h.closed h.inR hj hne), h.notI, h.closed, fun k ok hk hR hl => by
    refine h.cond k ok hk hR ?_
    by_cases hjk : j = k
    · subst hjk; exact (mem_ready.1 hj).1
    · rwa [getD_set_ne true hjk] at hl⟩

theorem okAt_spec {listed : Array Bool} {i : Nat} {oi : Oper} (hi : ops[i]? = some oi) (hs : listed.size = ops.size) (h : okAt P ops listed i = true) :
    (∀ cs b, oi.op ≠ .select cs b) ∧ Before P ops oi i (match kind P oi.op with | 0 => 3 | 1 => 2 | _ => 0) (reach ops listed i) listed := by
  unfold okAt at h
  rw [hi] at h
  dsimp only at h
  simp only [Bool.and_eq_true, List.all_eq_true, List.mem_range, Bool.or_eq_true, Bool.not_eq_true'] at h
  obtain ⟨⟨hc, hsel⟩, hall⟩ := h
  obtain ⟨c1, c2, c3⟩ := cert_spec hc
  refine ⟨(fun cs b he => by rw [he] at hsel; cases hsel), ⟨fun j hj => c2 j (by have := getD_lt hj; omega) hj, c1, c3, fun j oj hj hR hl => ?_⟩⟩
  have hlt := (Array.getElem?_eq_some_iff.1 hj).1
  rcases hall j hlt with (h1 | h1) | h1
  · rw [hR] at h1; cases h1
  · rw [hl] at h1; cases h1
  · unfold condQ at h1
    rw [hj] at h1
    simp only [Bool.and_eq_true, decide_eq_true_eq] at h1
    exact ⟨h1.1.1.1, h1.1.1.2, h1.1.2, fun cs b he => by rw [he] at h1; cases h1.2⟩

/-- 'i' reads or reckons: first. -/
theorem first {C : World → World → Prop} (hrefl : ∀ w, C w w) (ht : ∀ x y z, C x y → C y z → C x z) {i q : Nat} {oi : Oper} {v : Value} {R : Array Bool} (hi : ops[i]? = some oi) (hsi : ∀ cs b, oi.op ≠ .select cs b)
    (hresp : ∀ oj : Oper, kind P oj.op ≤ q → Resp P C oj) :
    ∀ (n : Nat) (listed : Array Bool) (a : Act) (w : World), Before P ops oi i q R listed → i ∈ Region.ready .any ops listed → Y P ops C oi v a w →
      any' P ops L n (listed.setIfInBounds i true) (a.put oi.dst v) w → any' P ops L (n + 1) listed a w := by
  intro n
  induction n with
  | zero =>
    intro listed a w hb hr hy H
    refine ⟨fun h => (by rw [h] at hr; cases hr), fun j hj => ?_⟩
    by_cases hji : j = i
    · subst hji; exact hy.op' hi (hrefl w) H
    · have := ready_mono hj hji
      rw [H.1] at this
      cases this
  | succ n ih =>
    intro listed a w hb hr hy H
    refine ⟨fun h => (by rw [h] at hr; cases hr), fun j hj => ?_⟩
    by_cases hji : j = i
    · subst hji; exact hy.op' hi (hrefl w) H
    · obtain ⟨hjun, oj, hoj, _⟩ := mem_ready.1 hj
      obtain ⟨hap, _, hq, hsj⟩ := hb.cond j oj hoj (ready_within hb.closed hb.inR hj hji) hjun
      have h1 := H.2 j (ready_mono hj hji)
      have h2 := op'_put hrefl ht hoj hap hsi hsj (hresp oj hq) hy h1
      refine op'_mono (fun a' w' h3 => ih (listed.setIfInBounds j true) a' w' (hb.set hj hji) (ready_mono hr (Ne.symm hji)) h3.1 ?_) h2
      rw [Array.setIfInBounds_comm _ _ hji]
      exact h3.2

theorem Y_of_flat {o : Oper} {a : Act} {w w1 : World} {K : Act → World → Prop} {i : Nat} (hi : ops[i]? = some o) (hk : kind P o.op = 0) (h : op' P ops L i K a w) : ∃ v, Y P ops Any o v a w1 ∧ K (a.put o.dst v) w := by
  unfold op' at h
  rw [hi] at h; dsimp only at h
  split at h
  · rename_i hw
    obtain ⟨hd, h⟩ := h
    obtain ⟨hf, hv⟩ := flat_of_kind (P := P) (ρ := a.eval) hk hd
    unfold Oper.wp at h
    cases hr : (execOp a.eval o).run P w with
    | ok x w' =>
      obtain ⟨v, rfl⟩ := hv _ _ _ hr
      obtain ⟨rfl, hall⟩ := hf _ _ _ hr
      rw [hr] at h
      exact ⟨v, .inl ⟨hw, hd, fun w2 _ => hall w2⟩, h⟩
    | halt x w' =>
      rw [hr] at h
      cases x <;> simp only [Oper.upon] at h
      case panic u => exact (h : False).elim
  · rename_i hw
    exact ⟨undef, .inr ⟨by simpa using hw, rfl⟩, h⟩
theorem Y_of_calm {o : Oper} {a : Act} {w : World} {K : Act → World → Prop} {i : Nat} (hi : ops[i]? = some o) (hk : kind P o.op ≤ 1) (h : op' P ops L i K a w) : ∃ v, Y P ops Ext o v a w ∧ K (a.put o.dst v) w := by
  unfold op' at h
  rw [hi] at h; dsimp only at h
  split at h
  · rename_i hw
    obtain ⟨hd, h⟩ := h
    obtain ⟨hf, hv⟩ := calm_of_kind (P := P) (ρ := a.eval) hk hd
    unfold Oper.wp at h
    cases hr : (execOp a.eval o).run P w with
    | ok x w' =>
      obtain ⟨v, rfl⟩ := hv _ _ _ hr
      obtain ⟨rfl, hall⟩ := hf _ _ _ hr
      rw [hr] at h
      exact ⟨v, .inl ⟨hw, hd, fun w2 h2 => hall w2 h2⟩, h⟩
    | halt x w' =>
      rw [hr] at h
      cases x <;> simp only [Oper.upon] at h
      case panic u => exact (h : False).elim
  · rename_i hw
    exact ⟨undef, .inr ⟨by simpa using hw, rfl⟩, h⟩

theorem op'_outcome {i : Nat} {o : Oper} {K : Act → World → Prop} {a : Act} {w : World} (hi : ops[i]? = some o) (h : op' P ops L i K a w) : ∃ ds u w', K (({ a with defers := ds } : Act).put o.dst u) w' := by
  unfold op' at h
  rw [hi] at h; dsimp only at h
  split at h
  · exact wp_outcome h.2
  · exact ⟨a.defers, undef, w, h⟩

/-- 'i' writes: whoever may come before it only reckons. -/
theorem bubble {i : Nat} {oi : Oper} {R : Array Bool} (hi : ops[i]? = some oi) (hsi : ∀ cs b, oi.op ≠ .select cs b) :
    ∀ (n : Nat) (listed : Array Bool) (a : Act) (w : World), Before P ops oi i 0 R listed → i ∈ Region.ready .any ops listed →
      op' P ops L i (any' P ops L n (listed.setIfInBounds i true)) a w → any' P ops L (n + 1) listed a w := by
  intro n
  induction n with
  | zero =>
    intro listed a w hb hr H
    refine ⟨fun h => (by rw [h] at hr; cases hr), fun j hj => ?_⟩
    by_cases hji : j = i
    · subst hji; exact H
    · obtain ⟨ds, u, w', hK⟩ := op'_outcome hi H
      have := ready_mono hj hji
      rw [hK.1] at this
      cases this
  | succ n ih =>
    intro listed a w hb hr H
    refine ⟨fun h => (by rw [h] at hr; cases hr), fun j hj => ?_⟩
    by_cases hji : j = i
    · subst hji; exact H
    · obtain ⟨hjun, oj, hoj, _⟩ := mem_ready.1 hj
      obtain ⟨hap, hap', hq, hsj⟩ := hb.cond j oj hoj (ready_within hb.closed hb.inR hj hji) hjun
      have hk : kind P oj.op = 0 := by omega
      obtain ⟨_, _, h3⟩ := Oper.apart_spec hap'
      have back : ∀ ds u (v : Value) w1, Y P ops Any oj v (({ a with defers := ds } : Act).put oi.dst u) w1 → Y P ops Any oj v a w := fun ds u v w1 hy => by
        unfold Y at *
        rw [execOp_put oj hsj _ oi.dst u h3, wanted_put oj _ oi.dst u h3, dyn_put h3, eval_defers] at hy
        rcases hy with ⟨x1, x2, x3⟩ | hy
        · exact .inl ⟨x1, x2, fun w2 _ => x3 w2 trivial⟩
        · exact .inr hy
      have fwd : ∀ ds u (v : Value) w1, Y P ops Any oj v a w → Y P ops Any oj v (({ a with defers := ds } : Act).put oi.dst u) w1 := fun ds u v w1 hy => by
        unfold Y at *
        rw [execOp_put oj hsj _ oi.dst u h3, wanted_put oj _ oi.dst u h3, dyn_put h3, eval_defers]
        rcases hy with ⟨x1, x2, x3⟩ | hy
        · exact .inl ⟨x1, x2, fun w2 _ => x3 w2 trivial⟩
        · exact .inr hy
      obtain ⟨ds, u, w', hK⟩ := op'_outcome hi H
      obtain ⟨v, hy, _⟩ := Y_of_flat (w1 := w') hoj hk (hK.2 j (ready_mono hj hji))
      have hya := back ds u v w' hy
      refine hya.op' hoj trivial ?_
      refine ih (listed.setIfInBounds j true) _ w (hb.set hj hji) (ready_mono hr (Ne.symm hji)) ?_
      refine op'_swap hi hap' hsi ?_
      -- every outcome of 'i' lets 'j' yield the same
      have hpost : op' P ops L i (fun a' w' => Y P ops Any oj v a' w' ∧ any' P ops L (n + 1) (listed.setIfInBounds i true) a' w') a w := by
        unfold op' at H ⊢
        rw [hi] at H ⊢; dsimp only at H ⊢
        split
        · rename_i hw
          rw [if_pos hw] at H
          refine ⟨H.1, ?_⟩
          replace H := H.2
          unfold Oper.wp at *
          generalize (execOp a.eval oi).run P w = r at *
          cases r with
          | ok x w' =>
            cases x <;> simp only [Oper.upon] at H ⊢
            case value u => exact ⟨fwd a.defers u v _ hya, H⟩
            case skip => exact ⟨fwd a.defers undef v _ hya, H⟩
            case defer d => exact ⟨fwd _ undef v _ hya, H⟩
            case enter f args =>
              refine Calls.mono H fun e w'' he => ?_
              cases e with
              | returned u => exact ⟨fwd a.defers u v _ hya, he⟩
              | panicked c => exact he
              | outgrown => exact he
            case row row args => exact Rows.mono H fun u w'' he => ⟨fwd a.defers u v _ hya, he⟩
          | halt x w' =>
            cases x <;> simp only [Oper.upon] at H ⊢
            case panic u => exact H
        · rename_i hw
          rw [if_neg hw] at H
          exact ⟨fwd a.defers undef v _ hya, H⟩
      refine op'_mono (fun a' w' h4 => ?_) hpost
      obtain ⟨hy4, h4⟩ := h4
      obtain ⟨v', hy', h5⟩ := Y_of_flat (w1 := w') hoj hk (h4.2 j (ready_mono hj hji))
      have hv : v' = v := by
        rcases hy4 with ⟨x1, _, x3⟩ | ⟨x1, x2⟩
        · rcases hy' with ⟨_, _, y3⟩ | ⟨y1, _⟩
          · have e1 := x3 w' trivial
            have e2 := y3 w' trivial
            rw [e1] at e2
            injection e2 with e2 _
            injection e2 with e2
            exact e2.symm
          · rw [x1] at y1; cases y1
        · rcases hy' with ⟨y1, _, _⟩ | ⟨_, y2⟩
          · rw [x1] at y1; cases y1
          · rw [x2, y2]
      subst hv
      rw [Array.setIfInBounds_comm _ _ hji]
      exact h5

/-! ### The whole region -/
def seqOK (P : Program) (ops : Array Oper) : List Nat → Array Bool → Bool
  | [], listed => (Region.ready .any ops listed).isEmpty
  | i :: rest, listed => (Region.ready .any ops listed).contains i && okAt P ops listed i && seqOK P ops rest (listed.setIfInBounds i true)

def seqW (P : Program) (ops : Array Oper) (L : Act → World → Prop) : List Nat → Act → World → Prop
  | [], a, w => L a w
  | i :: rest, a, w => op' P ops L i (seqW P ops L rest) a w

theorem any'_of_seq : ∀ (todo : List Nat) (listed : Array Bool) (a : Act) (w : World), listed.size = ops.size → seqOK P ops todo listed = true → seqW P ops L todo a w → any' P ops L todo.length listed a w
  | [], listed, a, w, _, hB, h => ⟨by simpa [seqOK] using hB, h⟩
  | i :: rest, listed, a, w, hs, hB, h => by
    simp only [seqOK, Bool.and_eq_true] at hB
    obtain ⟨⟨hr, hok⟩, hB'⟩ := hB
    have hr' : i ∈ Region.ready .any ops listed := by simpa using hr
    obtain ⟨_, oi, hi, _⟩ := mem_ready.1 hr'
    obtain ⟨hsi, hb⟩ := okAt_spec hi hs hok
    have H : op' P ops L i (any' P ops L rest.length (listed.setIfInBounds i true)) a w := op'_mono (fun a w h => any'_of_seq rest _ a w (by simpa using hs) hB' h) h
    have hk3 : kind P oi.op = 0 ∨ kind P oi.op = 1 ∨ 2 ≤ kind P oi.op := by omega
    rcases hk3 with hk | hk | hk
    · obtain ⟨v, hy, hK⟩ := Y_of_flat (w1 := w) hi hk H
      exact first (C := Any) (fun _ => trivial) (fun _ _ _ _ _ => trivial) hi hsi (fun _ _ => .inl fun _ _ => trivial) _ listed a w hb hr' hy hK
    · obtain ⟨v, hy, hK⟩ := Y_of_calm hi (by omega) H
      rw [hk] at hb
      exact first (C := Ext) Ext.refl (fun _ _ _ => Ext.trans) hi hsi (fun _ hq => .inr ⟨hq, fun _ _ h => h⟩) _ listed a w hb hr' hy hK
    · have hb' : Before P ops oi i 0 (reach ops listed i) listed := by
        have : (match kind P oi.op with | 0 => 3 | 1 => 2 | _ => 0) = 0 := by
          split
          · omega
          · omega
          · rfl
        rw [this] at hb
        exact hb
      exact bubble hi hsi _ listed a w hb' hr' H

def plainAll (P : Program) (l : List Oper) (a : Act) : Bool := l.all fun o => dyn P o.op a.eval

def isDyn : Op → Bool
  | .binOp .. => true
  | .convert .. => true
  | _ => false
/-- Behind an operation of those nobody writes what it took. -/
def keptB : List Oper → Bool
  | [] => true
  | o :: rest => (!isDyn o.op || o.op.operands.all fun x => match x with
      | .tmp t => (o :: rest).all fun o' => o'.dst != some t
      | _ => true) && keptB rest

theorem wpList_final {l : List Oper} : ∀ (a : Act) (w : World), wpList P ops (SQ L) l a w → ∃ a' w', L a' w' ∧ ∀ x : Operand, (∀ t, x = .tmp t → ∀ o ∈ l, o.dst ≠ some t) → a'.eval x = a.eval x := by
  induction l with
  | nil => exact fun a w h => ⟨a, w, h, fun _ _ => rfl⟩
  | cons o l ih =>
    intro a w h
    unfold wpList at h
    have step : ∃ ds u w', wpList P ops (SQ L) l (({ a with defers := ds } : Act).put o.dst u) w' := by
      split at h
      · rcases h with h | h
        · exact wp_outcome h
        · exact (not_letsOut h.2).elim
      · exact ⟨a.defers, undef, w, h⟩
    obtain ⟨ds, u, w', hK⟩ := step
    obtain ⟨a', w2, hL, he⟩ := ih _ _ hK
    refine ⟨a', w2, hL, fun x hx => (he x fun t ht o' ho' => hx t ht o' (List.mem_cons_of_mem _ ho')).trans ?_⟩
    rw [Act.eval_put fun d hd hxd => hx d hxd o (List.mem_cons_self ..) hd, eval_defers]

theorem seq_of_list {L : Act → World → Prop} {full : List Oper} : ∀ (l : List Oper) (k : Nat) (a : Act) (w : World), (∀ j, l[j]? = ops[k + j]?) → (∀ o ∈ l, o ∈ full) → keptB l = true →
    wpList P ops (SQ fun a w => plainAll P full a = true ∧ L a w) l a w → seqW P ops L (List.range' k l.length) a w
  | [], k, a, w, _, _, _, h => h.2
  | o :: l, k, a, w, hl, hf, hB, h => by
    have h0 : ops[k]? = some o := by simpa using (hl 0).symm
    simp only [keptB, Bool.and_eq_true, Bool.or_eq_true, Bool.not_eq_true'] at hB
    have hd : dyn P o.op a.eval = true := by
      obtain ⟨a', w', ⟨hp, _⟩, he⟩ := wpList_final _ _ h
      have h1 : dyn P o.op a'.eval = true := List.all_eq_true.1 hp o (hf o (List.mem_cons_self ..))
      cases hD : isDyn o.op with
      | false => cases ho : o.op <;> rw [ho] at hD <;> simp only [isDyn, Bool.true_eq_false] at hD <;> rfl
      | true =>
        rw [← h1]
        refine (dyn_congr fun x hx => he x fun t ht o' ho' heq => ?_).symm
        have h2 := hB.1.resolve_left (by rw [hD]; simp)
        have h3 := Array.all_eq_true_iff_forall_mem.1 h2 x hx
        subst ht
        have h4 := List.all_eq_true.1 h3 o' ho'
        simp [heq] at h4
    simp only [List.length_cons, List.range'_succ, seqW]
    unfold wpList at h
    unfold op'
    rw [h0]; dsimp only
    have mono : ∀ a w, wpList P ops (SQ fun a w => plainAll P full a = true ∧ L a w) l a w → seqW P ops L (List.range' (k + 1) l.length) a w := fun a w hh =>
      seq_of_list l (k + 1) a w (fun j => by have := hl (j + 1); simpa [Nat.add_assoc, Nat.add_comm 1 j] using this) (fun o ho => hf o (List.mem_cons_of_mem _ ho)) hB.2 hh
    have sq : ∀ e a w, SQ (fun a w => plainAll P full a = true ∧ L a w) e a w → SQ L e a w := fun e a w h => by
      cases e <;> first | exact h.2 | exact h
    split
    · rename_i hw
      rw [if_pos hw] at h
      rcases h with h | h
      · refine ⟨hd, ?_⟩
        have h' := Oper.wp_mono mono h
        unfold Oper.wp at *
        generalize (execOp a.eval o).run P w = r at *
        cases r with
        | ok x w' =>
          cases x <;> simp only [Oper.upon] at h' ⊢
          case value v => exact h'
          case skip => exact h'
          case defer d => exact h'
          case enter f args =>
            refine Calls.mono h' fun e w'' he => ?_
            cases e with
            | returned u => exact he
            | panicked c => exact he
            | outgrown => exact (not_letsOut he).elim
          case row row args => exact h'
        | halt x w' =>
          cases x <;> simp only [Oper.upon] at h' ⊢
          case panic v => exact (h' : False).elim
      · exact (not_letsOut h.2).elim
    · rename_i hw
      rw [if_neg hw] at h
      exact mono _ _ h

/-- THE CHECK, a closed Bool. -/
def regionOK (P : Program) (l : List Oper) : Bool := seqOK P l.toArray (List.range l.length) (Array.replicate l.length false) && keptB l

/-- THE REGION, IN THE ORDER OF THE TEXT. -/
theorem wp_region_text {id : Nat} {l : List Oper} {Q : Exit → Act → World → Prop} {a : Act} {w : World} (hm : P.follows .mixedOrders = true) (hB : regionOK P l = true)
    (h : wpList P l.toArray (SQ fun a w => plainAll P l a = true ∧ Q .normal a w) l a w.drew) : (Code.region id l.toArray true).wp P Q a w := by
  simp only [regionOK, Bool.and_eq_true] at hB
  have h1 : seqW P l.toArray (Q .normal) (List.range' 0 l.length) a w.drew := seq_of_list l 0 a w.drew (by simp) (fun _ h => h) hB.2 h
  rw [← List.range_eq_range'] at h1
  have h2 := any'_of_seq (List.range l.length) _ a w.drew (by simp) hB.1 h1
  have h3 := any'_wpAny _ _ _ _ h2
  rw [List.length_range] at h3
  refine Code.wp_mono (Q := SQ (Q .normal)) (fun e a w q => by cases e <;> first | exact q | exact q.elim) (wp_region_any hm ?_)
  simpa using h3
theorem sq_done {l : List Oper} {L : Act → World → Prop} {a : Act} {w : World} (h : plainAll P l a = true) (hq : L a w) : SQ (fun a w => plainAll P l a = true ∧ L a w) .normal a w := ⟨h, hq⟩
end
end Go.Lex
