/-
  A region that draws its order, walked in the order of the text: kinds of operations, and the main theorem.
-/
import Derived.Test.YthekilgolelomaaLex
set_option linter.unusedSimpArgs false
set_option linter.unusedVariables false
namespace Go.Lex
section
variable {P : Program}

def capFlat (P : Program) (t : TypeId) : Bool := match P.underlying t with | some (.slice _) => true | _ => false
/-- 0: its outcome hangs on its operands alone; 1: it reads cells; 2: it makes a block; 3: all else. -/
def kind (P : Program) : Op → Nat
  | .move _ => 0
  | .assign _ => 0
  | .pick .. => 0
  | .nilCheck _ => 0
  | .indexAddr .. => 0
  | .field .. => 0
  | .extract .. => 0
  | .unOp .. => 0
  | .slice .. => 0
  | .index .. => 0
  | .makeInterface .. => 0
  | .makeFunc .. => 0
  | .build .. => 0
  | .binOp .. => 0
  | .convert .. => 0
  | .fieldAddr s _ f => if fieldSolid P s f then 0 else 3
  | .load .. => 1
  | .alloc _ => 2
  | .box .. => 2
  | .buildSlice .. => 2
  | .makeSlice .. => 2
  | .makeMap .. => 2
  | .call c => match c.callee with
    | .builtin .len => match c.argTypes[0]? with
      | some t => if lenFlat P t then 0 else 3
      | none => 3
    | .builtin .cap => match c.argTypes[0]? with
      | some t => if capFlat P t then 0 else 3
      | none => 3
    | _ => 3
  | _ => 3

/-- What an operation of kind 0 asks of its operands' values. -/
def dyn (P : Program) (op : Op) (ev : Operand → Value) : Bool :=
  match op with
  | .binOp b _ x y _ => okPair b (ev x) (ev y)
  | .convert _ d x => convOK P d (ev x)
  | _ => true

theorem dyn_congr {op : Op} {ev ev' : Operand → Value} (h : ∀ x ∈ op.operands, ev x = ev' x) : dyn P op ev = dyn P op ev' := by
  cases op <;> simp only [Op.operands] at h <;> simp only [dyn]
  case binOp b t x y u => rw [h x (by simp), h y (by simp)]
  case convert s d x => rw [h x (by simp)]

/-- an outcome is a value -/
def Valued (P : Program) (s : Sem Next) : Prop := ∀ w x w', s.run P w = .ok x w' → ∃ v, x = .value v
theorem valued_v (s : Sem Value) : Valued P (do pure (.value (← s))) := fun w x w' hr => by
  obtain ⟨v, w1, _, h2⟩ := bind_ok hr
  simp only [Sem.run_pure, Result.ok.injEq] at h2
  exact ⟨v, h2.1.symm⟩
theorem Dead.valued {s : Sem Next} (h : Dead P s) : Valued P s := fun _ _ _ hr => absurd hr (h _ _ _)
theorem flat_v {s : Sem Value} (h : Flat P s) : Flat P (do pure (.value (← s)) : Sem Next) := h.bind fun _ => Flat.pure _
theorem calm_v {s : Sem Value} (h : Calm P s) : Calm P (do pure (.value (← s)) : Sem Next) := h.bind fun _ => (Flat.pure _).calm
theorem grows_v {s : Sem Value} (h : Grows P s) : Grows P (do pure (.value (← s)) : Sem Next) := h.bind fun _ => (Flat.pure _).calm.grows

theorem call_len {ρ : Operand → Value} {c : Call} {ty : TypeId} {t : TypeId} (hc : c.callee = .builtin .len) (ht : c.argTypes[0]? = some t) (h : lenFlat P t = true) :
    Flat P (do let d ← resolve ρ c ty; invoke d.target d.args) ∧ Valued P (do let d ← resolve ρ c ty; invoke d.target d.args) := by
  have e : (do let d ← resolve ρ c ty; invoke d.target d.args : Sem Next) = (do pure (.value (← Builtin.len_ c.argTypes ty (c.args.map ρ)))) := by
    unfold resolve; rw [hc]; simp only [pure_bind, invoke, builtin]
  rw [e]
  exact ⟨flat_v (flat_len ht h), valued_v _⟩
theorem call_cap {ρ : Operand → Value} {c : Call} {ty : TypeId} {t : TypeId} (hc : c.callee = .builtin .cap) (ht : c.argTypes[0]? = some t) (h : capFlat P t = true) :
    Flat P (do let d ← resolve ρ c ty; invoke d.target d.args) ∧ Valued P (do let d ← resolve ρ c ty; invoke d.target d.args) := by
  have e : (do let d ← resolve ρ c ty; invoke d.target d.args : Sem Next) = (do pure (.value (← Builtin.cap_ c.argTypes ty (c.args.map ρ)))) := by
    unfold resolve; rw [hc]; simp only [pure_bind, invoke, builtin]
  rw [e]
  exact ⟨flat_v (flat_cap ht h), valued_v _⟩
theorem flat_of_kind {ρ : Operand → Value} {o : Oper} (hk : kind P o.op = 0) (hd : dyn P o.op ρ = true) : Flat P (execOp ρ o) ∧ Valued P (execOp ρ o) := by
  obtain ⟨dst, op, ty, pos, after, guard⟩ := o
  cases op <;> simp only [kind] at hk <;> (try cases hk) <;> simp only [execOp]
  case move x => exact ⟨Flat.pure _, fun w x w' hr => by simp only [Sem.run_pure, Result.ok.injEq] at hr; exact ⟨_, hr.1.symm⟩⟩
  case assign x => exact ⟨Flat.pure _, fun w x w' hr => by simp only [Sem.run_pure, Result.ok.injEq] at hr; exact ⟨_, hr.1.symm⟩⟩
  case pick c a b =>
    refine ⟨(flat_asBool _).bind fun _ => Flat.pure _, fun w x w' hr => ?_⟩
    obtain ⟨v, w1, _, h2⟩ := bind_ok hr
    simp only [Sem.run_pure, Result.ok.injEq] at h2
    exact ⟨_, h2.1.symm⟩
  case build t ps => exact ⟨flat_v (flat_build _ _), valued_v _⟩
  case nilCheck x =>
    refine ⟨?_, ?_⟩
    · split
      all_goals first
        | exact (dead_runtimePanic _).flat
        | exact Flat.pure _
        | (split
           all_goals first
             | exact (dead_runtimePanic _).flat
             | exact Flat.pure _
             | (refine flat_program.bind fun p => (flat_nilAhead _ _ _ _).bind fun r => ?_
                split
                · exact ((dead_unsupported _).bind).flat
                · exact Flat.pure _))
    · intro w x w' hr
      split at hr
      all_goals first
        | exact absurd hr (dead_runtimePanic _ _ _ _)
        | (simp only [Sem.run_pure, Result.ok.injEq] at hr; exact ⟨_, hr.1.symm⟩)
        | (split at hr
           all_goals first
             | exact absurd hr (dead_runtimePanic _ _ _ _)
             | (simp only [Sem.run_pure, Result.ok.injEq] at hr; exact ⟨_, hr.1.symm⟩)
             | (obtain ⟨p, w1, _, h2⟩ := bind_ok hr
                obtain ⟨r, w2, _, h3⟩ := bind_ok h2
                split at h3
                · exact absurd h3 ((dead_unsupported _).bind _ _ _)
                · simp only [Sem.run_pure, Result.ok.injEq] at h3; exact ⟨_, h3.1.symm⟩))
  case binOp b t x y u => exact ⟨flat_v ((flat_eqGuard _ _ _ _ _ _).bind fun _ => flat_binOp hd), valued_v _⟩
  case unOp u t x => exact ⟨flat_v (flat_unary _ _), valued_v _⟩
  case convert s d x => exact ⟨flat_v (flat_convert hd), valued_v _⟩
  case makeInterface t x => exact ⟨flat_v (flat_makeInterface _ _), valued_v _⟩
  case makeFunc fn f c => exact ⟨flat_v (Flat.pure _), valued_v _⟩
  case slice t x lo hi mx => exact ⟨flat_v (flat_sliceAt _ _ _ _ _), valued_v _⟩
  case fieldAddr s x f =>
    split at hk
    · rename_i hs; exact ⟨flat_v (flat_fieldAt _ _ _ hs), valued_v _⟩
    · cases hk
  case field t x f => exact ⟨flat_v (flat_field _ _ _), valued_v _⟩
  case indexAddr t x i => exact ⟨flat_v (flat_indexAt _ _ _), valued_v _⟩
  case index t x i => exact ⟨flat_v (flat_index _ _ _), valued_v _⟩
  case extract t i => exact ⟨flat_v (flat_extract _ _), valued_v _⟩
  case call c =>
    split at hk
    · rename_i hc
      split at hk
      · rename_i ht
        split at hk
        · rename_i hl; exact call_len hc ht hl
        · cases hk
      · cases hk
    · rename_i hc
      split at hk
      · rename_i ht
        split at hk
        · rename_i hl; exact call_cap hc ht hl
        · cases hk
      · cases hk
    · cases hk
theorem calm_of_kind {ρ : Operand → Value} {o : Oper} (hk : kind P o.op ≤ 1) (hd : dyn P o.op ρ = true) : Calm P (execOp ρ o) ∧ Valued P (execOp ρ o) := by
  rcases Nat.lt_or_ge (kind P o.op) 1 with h | h
  · have := flat_of_kind (ρ := ρ) (by omega) hd
    exact ⟨this.1.calm, this.2⟩
  · have h1 : kind P o.op = 1 := by omega
    obtain ⟨dst, op, ty, pos, after, guard⟩ := o
    cases op <;> simp only [kind] at h1 <;> (try (exfalso; omega)) <;> simp only [execOp]
    case load t x => exact ⟨calm_v (calm_loadAt _ _), valued_v _⟩
    case fieldAddr s x f => split at h1 <;> omega
    case call c =>
      split at h1
      · split at h1
        · split at h1 <;> omega
        · omega
      · split at h1
        · split at h1 <;> omega
        · omega
      · omega
theorem grows_of_kind {ρ : Operand → Value} {o : Oper} (hk : kind P o.op ≤ 2) (hd : dyn P o.op ρ = true) : Grows P (execOp ρ o) ∧ Valued P (execOp ρ o) := by
  rcases Nat.lt_or_ge (kind P o.op) 2 with h | h
  · have := calm_of_kind (ρ := ρ) (by omega) hd
    exact ⟨this.1.grows, this.2⟩
  · have h1 : kind P o.op = 2 := by omega
    obtain ⟨dst, op, ty, pos, after, guard⟩ := o
    cases op <;> simp only [kind] at h1 <;> (try (exfalso; omega)) <;> simp only [execOp]
    case alloc t => exact ⟨grows_v (grows_alloc _), valued_v _⟩
    case box t x => exact ⟨grows_v (grows_box _ _), valued_v _⟩
    case buildSlice t n ps => exact ⟨grows_v (grows_buildSlice _ _ _), valued_v _⟩
    case makeMap t r => exact ⟨grows_v (grows_makeMap _ _), valued_v _⟩
    case makeSlice t n c => exact ⟨grows_v (grows_makeSlice _ _ _), valued_v _⟩
    case fieldAddr s x f => split at h1 <;> omega
    case call c =>
      split at h1
      · split at h1
        · split at h1 <;> omega
        · omega
      · split at h1
        · split at h1 <;> omega
        · omega
      · omega
end
end Go.Lex
