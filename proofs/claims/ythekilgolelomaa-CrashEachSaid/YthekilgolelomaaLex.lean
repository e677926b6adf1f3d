/-
  A region that draws its order, walked in the order of the text: the main theorem.
-/
import Derived.Test.YthekilgolelomaaLex0
set_option linter.unusedSimpArgs false
set_option linter.unusedVariables false
namespace Go.Lex
section
variable {P : Program} {α β : Type}
theorem seen_none {w : World} {at_ : Addr} {u : TypeId} {a : Addr} {b : Bool} {x : Array Value × TypeId × (Nat × Nat) × Nat × Value × List (Nat × Nat × List UInt8)} (hb : w.heap[at_.block]? = none) : w.seen P at_ u a b ≠ .ok x := by
  unfold World.seen
  rw [hb]
  have ht : ∀ (α : Type) (s : String), (MonadExcept.throw s : Except String α) = Except.error s := fun _ _ => rfl
  simp only [bind, Except.bind, ht]
  repeat' (first | (intro hx; cases hx; done) | exact Except.noConfusion | (simp; done) | split)
theorem farLoad_ext {w w2 : World} {a : Addr} {b : Bool} {r : Value × List Addr} (he : Ext w w2) (h : w.farLoad P a b = .ok r) : w2.farLoad P a b = .ok r := by
  unfold World.farLoad at h ⊢
  cases ho : w.heap[a.block]? with
  | none => rw [ho] at h; cases h
  | some o =>
    rw [ho] at h; rw [he.block ho]
    cases o <;> simp only at h ⊢ <;> first | cases h | skip
    rename_i at_ u
    cases hv : w.viewLoad P at_ u a b with
    | error e => rw [hv] at h; cases h
    | ok y =>
      rw [hv] at h
      have hv2 : w2.viewLoad P at_ u a b = .ok y := by
        unfold World.viewLoad at hv ⊢
        cases hb : w.heap[at_.block]? with
        | some o =>
          have : w2.seen P at_ u a b = w.seen P at_ u a b := by unfold World.seen; rw [hb, he.block hb]
          rw [this]; exact hv
        | none =>
          exfalso
          cases hs : w.seen P at_ u a b with
          | error e => rw [hs] at hv; cases hv
          | ok z => exact seen_none hb hs
      rw [hv2]; exact h
theorem cell_none_ext {w w2 : World} {a : Addr} {b : Bool} {r : Value × List Addr} (he : Ext w w2) (hc : w.cell? a = none) (h : w.farLoad P a b = .ok r) : w2.cell? a = none := by
  unfold World.farLoad at h
  unfold World.cell? at hc ⊢
  cases ho : w.heap[a.block]? with
  | none => rw [ho] at h; cases h
  | some o => rw [ho] at hc; rw [he.block ho]; exact hc
theorem calm_load (a : Addr) : Calm P (load a) := fun w x w' hr => by
  simp only [load, Sem.run] at hr
  cases hc : w.cell? a with
  | some v =>
    rw [hc] at hr
    simp only [Result.ok.injEq] at hr
    obtain ⟨rfl, rfl⟩ := hr
    exact ⟨rfl, fun w2 he => by simp only [load, Sem.run]; rw [he.cell hc]⟩
  | none =>
    rw [hc] at hr
    simp only at hr
    cases hf : w.farLoad P a (Mode.plain == .atomic) with
    | error e => rw [hf] at hr; cases hr
    | ok r =>
      rw [hf] at hr
      simp only [Result.ok.injEq] at hr
      obtain ⟨rfl, rfl⟩ := hr
      exact ⟨rfl, fun w2 he => by simp only [load, Sem.run]; rw [cell_none_ext he hc hf]; simp only [farLoad_ext he hf]⟩
theorem calm_loadCellsFrom (a : Addr) : ∀ (n i : Nat) (acc : Array Value), Calm P (loadCellsFrom a i n acc)
  | 0, i, acc => (Flat.pure _).calm
  | n + 1, i, acc => by
    unfold loadCellsFrom
    exact (calm_load _).bind fun _ => calm_loadCellsFrom a n _ _
theorem calm_loadVar (t : TypeId) (a : Addr) : Calm P (loadVar t a) := by
  unfold loadVar
  refine (flat_isAgg t).calm.bind fun b => ?_
  split
  · exact (flat_sizeOf t).calm.bind fun n => Calm.bind (calm_loadCellsFrom _ _ _ _) fun _ => (Flat.pure _).calm
  · exact calm_load a
theorem calm_loadAt (t : TypeId) (v : Value) : Calm P (Instr.loadAt t v) := (flat_sureAddr v).calm.bind fun a => calm_loadVar t a

/-! ### Making memory -/
theorem grows_newObj (o : Obj) : Grows P (newObj o) := fun w x w' hr => by
  simp only [newObj, Sem.run, Result.ok.injEq] at hr
  obtain ⟨rfl, rfl⟩ := hr
  intro i hi
  simp only [Array.getElem?_push]
  rw [if_neg (by omega)]
theorem grows_newRow (e : TypeId) (c : Array Value) : Grows P (newRow e c) := (grows_newObj _).bind fun _ => (Flat.pure _).calm.grows
theorem grows_newVar (e : TypeId) (v : Value) : Grows P (newVar e v) := grows_newRow _ _
theorem grows_alloc (e : TypeId) : Grows P (Instr.alloc e true (.tuple #[])) := by
  unfold Instr.alloc
  refine (flat_zeroValue _).calm.grows.bind fun z => ?_
  exact (grows_newVar _ _).bind fun _ => (Flat.pure _).calm.grows
theorem grows_box (e : TypeId) (v : Value) : Grows P (Instr.box e v) := (grows_newVar _ _).bind fun _ => (Flat.pure _).calm.grows
theorem grows_buildSlice (t : TypeId) (n : Nat) (ps : Array (Nat × Value)) : Grows P (Instr.buildSlice t n ps) := by
  unfold Instr.buildSlice
  repeat' (first
    | exact (Flat.pure _).calm.grows | exact (dead_stuck _).grows | exact ((dead_unsupported _).bind).grows | exact (flat_underlying _).calm.grows | exact (flat_sizeOf _).calm.grows | exact (flat_zeroValue _).calm.grows | exact grows_newRow _ _
    | refine Grows.bind ?_ fun _ => ?_
    | split
    | (dsimp only))
theorem grows_choose (q : Question) : Grows P (choose q) := fun w x w' hr => by
  simp only [choose, Sem.run] at hr
  split at hr <;> simp only [Result.ok.injEq] at hr <;> obtain ⟨_, rfl⟩ := hr
  · exact Ext.refl _
  · exact fun _ _ => rfl
theorem grows_makeSlice (t : TypeId) (n c : Value) : Grows P (Instr.makeSlice t n c) := by
  unfold Instr.makeSlice
  repeat' (first
    | exact (Flat.pure _).calm.grows | exact (dead_stuck _).grows | exact (dead_runtimePanic _).grows | exact ((dead_runtimePanic _).bind).grows | exact ((dead_unsupported _).bind).grows | exact (flat_underlying _).calm.grows | exact (flat_typeInfo _).calm.grows
    | exact (flat_asInt _).calm.grows | exact (flat_sizeOf _).calm.grows | exact (flat_zeroValue _).calm.grows | exact grows_newRow _ _ | exact grows_choose _ | exact (flat_mark _).calm.grows
    | refine Grows.bind ?_ fun _ => ?_
    | split
    | (unfold askRoom)
    | (dsimp only)
    | (intro __do_jp))
theorem grows_makeMap (t : TypeId) (r : Option Value) : Grows P (Instr.makeMap t r) := by
  unfold Instr.makeMap
  repeat' (first
    | exact (Flat.pure _).calm.grows | exact (dead_stuck _).grows | exact ((dead_stuck _).bind).grows | exact (flat_underlying _).calm.grows
    | exact (flat_asInt _).calm.grows | exact grows_newObj _
    | refine Grows.bind ?_ fun _ => ?_
    | split
    | (dsimp only)
    | (intro __do_jp))
end
end Go.Lex
