/-
  A region that draws its order, walked in the order of the text: the main theorem.
-/
import Derived.Test.YthekilgolelomaaLex2
import Derived.KernelRfl
set_option linter.unusedSimpArgs false
set_option linter.unusedVariables false
namespace Go.Lex
section
variable {P : Program} {ops : Array Oper} {L : Act → World → Prop}

/-- The way on, and no other way out. -/
def SQ (L : Act → World → Prop) : Exit → Act → World → Prop
  | .normal, a, w => L a w
  | _, _, _ => False
theorem not_letsOut : ¬ LetsOut (SQ L) := fun ⟨_, _, h⟩ => h

def op' (P : Program) (ops : Array Oper) (L : Act → World → Prop) (i : Nat) (K : Act → World → Prop) (a : Act) (w : World) : Prop :=
  match ops[i]? with
  | none => False
  | some o => if Region.wanted o (yielded ops a.tmps) = true then dyn P o.op a.eval = true ∧ o.wp P a w K (SQ L) else K (a.put o.dst undef) w

def any' (P : Program) (ops : Array Oper) (L : Act → World → Prop) : Nat → Array Bool → Act → World → Prop
  | 0, listed, a, w => Region.ready .any ops listed = [] ∧ L a w
  | n + 1, listed, a, w => (Region.ready .any ops listed = [] → L a w) ∧ ∀ i ∈ Region.ready .any ops listed, op' P ops L i (any' P ops L n (listed.setIfInBounds i true)) a w

theorem op'_mono {i : Nat} {K K' : Act → World → Prop} {a : Act} {w : World} (h : ∀ a w, K a w → K' a w) (hh : op' P ops L i K a w) : op' P ops L i K' a w := by
  unfold op' at *
  split at hh
  · exact hh
  · rename_i o ho
    split at hh
    · rename_i hw; rw [if_pos hw]; exact ⟨hh.1, Oper.wp_mono h hh.2⟩
    · rename_i hw; rw [if_neg hw]; exact h _ _ hh
theorem any'_wpAny : ∀ (n : Nat) (listed : Array Bool) (a : Act) (w : World), any' P ops L n listed a w → wpAny P .any ops (SQ L) n listed a w
  | 0, _, _, _, h => h
  | n + 1, listed, a, w, h => ⟨h.1, fun i hi => by
      have hh := op'_mono (fun a w => any'_wpAny n (listed.setIfInBounds i true) a w) (h.2 i hi)
      unfold op' at hh
      unfold wpOp
      split at hh
      · exact hh.elim
      · rename_i o ho
        rw [ho]; dsimp only
        split at hh
        · rename_i hw; rw [if_pos hw]; exact .inl hh.2
        · rename_i hw; rw [if_neg hw]; exact hh⟩

theorem eval_defers (a : Act) (ds : List Deferred) : ({ a with defers := ds } : Act).eval = a.eval := by funext x; cases x <;> rfl

/-- An operation has an outcome. -/
theorem wp_outcome {o : Oper} {K : Act → World → Prop} {a : Act} {w : World} (h : o.wp P a w K (SQ L)) : ∃ ds u w', K (({ a with defers := ds } : Act).put o.dst u) w' := by
  unfold Oper.wp at h
  generalize (execOp a.eval o).run P w = r at h
  cases r with
  | ok n w' =>
    cases n <;> simp only [Oper.upon] at h
    case value v => exact ⟨a.defers, v, w', h⟩
    case skip => exact ⟨a.defers, undef, w', h⟩
    case defer d => exact ⟨d :: a.defers, undef, w', h⟩
    case enter f args =>
      obtain ⟨e, w'', fr, hR, _⟩ := h []
      cases e with
      | returned v => exact ⟨a.defers, v, w'', hR⟩
      | panicked c => exact (hR : False).elim
      | outgrown => exact (not_letsOut hR).elim
    case row row args =>
      obtain ⟨v, w'', hR, _⟩ := h default []
      exact ⟨a.defers, v, w'', hR⟩
  | halt x w' =>
    cases x <;> simp only [Oper.upon] at h
    case panic v => exact (h : False).elim

/-- 'o' yields v in every world that C lets follow. -/
def Y (P : Program) (ops : Array Oper) (C : World → World → Prop) (o : Oper) (v : Value) (a : Act) (w : World) : Prop :=
  (Region.wanted o (yielded ops a.tmps) = true ∧ dyn P o.op a.eval = true ∧ ∀ w2, C w w2 → (execOp a.eval o).run P w2 = .ok (.value v) w2) ∨
  (Region.wanted o (yielded ops a.tmps) = false ∧ v = undef)

def Any : World → World → Prop := fun _ _ => True

theorem Y.op' {C : World → World → Prop} {i : Nat} {o : Oper} {v : Value} {a : Act} {w : World} {K : Act → World → Prop} (hi : ops[i]? = some o) (hy : Y P ops C o v a w) (hr : C w w) (h : K (a.put o.dst v) w) : op' P ops L i K a w := by
  unfold Lex.op'
  rw [hi]; dsimp only
  rcases hy with ⟨hw, hd, hv⟩ | ⟨hw, rfl⟩
  · rw [if_pos hw]; exact ⟨hd, by unfold Oper.wp; rw [hv w hr]; exact h⟩
  · rw [if_neg (by simp [hw])]; exact h
theorem Y.mono {C : World → World → Prop} (ht : ∀ x y z, C x y → C y z → C x z) {o : Oper} {v : Value} {a : Act} {w w' : World} (h : C w w') (hy : Y P ops C o v a w) : Y P ops C o v a w' := by
  rcases hy with ⟨hw, hd, hv⟩ | hy
  · exact .inl ⟨hw, hd, fun w2 h2 => hv w2 (ht _ _ _ h h2)⟩
  · exact .inr hy

theorem dyn_put {o : Oper} {a : Act} {dst : Option Tmp} {v : Value} (h : ∀ d, dst = some d → d ∉ o.looksAt ops) : dyn P o.op (a.put dst v).eval = dyn P o.op a.eval :=
  dyn_congr fun x hx => Act.eval_put fun d hd hxd => h d hd (by
    subst hxd
    exact List.mem_append_left _ (List.mem_filterMap.2 ⟨.tmp d, by simpa using hx, rfl⟩))

theorem noSelect_of {o : Oper} (h : kind P o.op ≤ 2) : ∀ cs b, o.op ≠ .select cs b := fun cs b he => by rw [he] at h; simp [kind] at h

theorem Y.put {C : World → World → Prop} {oi oj : Oper} {v : Value} {a : Act} {w : World} (hsi : ∀ cs b, oi.op ≠ .select cs b) (h3 : ∀ d, oj.dst = some d → d ∉ oi.looksAt ops) (hy : Y P ops C oi v a w) (ds : List Deferred) (u : Value) :
    Y P ops C oi v (({ a with defers := ds } : Act).put oj.dst u) w := by
  unfold Y at *
  rw [execOp_put oi hsi _ oj.dst u h3, wanted_put oi _ oj.dst u h3, dyn_put h3, eval_defers]
  exact hy

/-- Either every world may follow, or the operation leaves the world as it is but for new blocks. -/
def Resp (P : Program) (C : World → World → Prop) (o : Oper) : Prop := (∀ w w', C w w') ∨ (kind P o.op ≤ 2 ∧ ∀ w w', Ext w w' → C w w')

/-- 'i' has yielded; then 'j' may go first as well. -/
theorem op'_put {C : World → World → Prop} (_hrefl : ∀ w, C w w) (ht : ∀ x y z, C x y → C y z → C x z) {j : Nat} {oi oj : Oper} {v : Value} (hj : ops[j]? = some oj) (hap : oi.apart ops oj = true)
    (hsi : ∀ cs b, oi.op ≠ .select cs b) (hsj : ∀ cs b, oj.op ≠ .select cs b) (hresp : Resp P C oj) {K : Act → World → Prop} {a : Act} {w : World}
    (hy : Y P ops C oi v a w) (h : op' P ops L j K (a.put oi.dst v) w) : op' P ops L j (fun a' w' => Y P ops C oi v a' w' ∧ K (a'.put oi.dst v) w') a w := by
  obtain ⟨h1, h2, h3⟩ := Oper.apart_spec hap
  have keep : ∀ ds u, Y P ops C oi v (({ a with defers := ds } : Act).put oj.dst u) w := fun ds u => hy.put hsi h3 ds u
  unfold op' at *
  rw [hj] at h ⊢; dsimp only at h ⊢
  rw [wanted_put oj a oi.dst v h1, dyn_put h1] at h
  split
  · rename_i hw
    rw [if_pos hw] at h
    refine ⟨h.1, ?_⟩
    obtain ⟨hd, h⟩ := h
    have hC : ∀ x w', (execOp a.eval oj).run P w = .ok x w' → ((∃ u, x = .value u) ∧ C w w') ∨ (∀ w w', C w w') := fun x w' hr => by
      rcases hresp with hall | ⟨hk, hE⟩
      · exact .inr hall
      · have hg := grows_of_kind (P := P) (ρ := a.eval) hk hd
        exact .inl ⟨hg.2 _ _ _ hr, hE _ _ (hg.1 _ _ _ hr)⟩
    unfold Oper.wp at *
    rw [execOp_put oj hsj a oi.dst v h1] at h
    generalize hrun : (execOp a.eval oj).run P w = r at *
    cases r with
    | ok n w' =>
      have hCn := hC n w' rfl
      cases n <;> simp only [Oper.upon] at h ⊢
      case value u =>
        have hww : C w w' := hCn.elim (fun x => x.2) (fun x => x _ _)
        exact ⟨(keep a.defers u).mono ht hww, by rw [← Act.put_comm a v u h2]; exact h⟩
      case skip =>
        have hww : C w w' := hCn.elim (fun x => x.2) (fun x => x _ _)
        exact ⟨(keep a.defers undef).mono ht hww, by rw [← Act.put_comm a v undef h2]; exact h⟩
      case defer d =>
        have hww : C w w' := hCn.elim (fun x => x.2) (fun x => x _ _)
        refine ⟨(keep _ _).mono ht hww, ?_⟩
        rw [← Act.put_comm _ v undef h2, ← Act.put_defers]
        exact h
      case enter f args =>
        have hall : ∀ w w', C w w' := hCn.elim (fun x => by obtain ⟨⟨u, hu⟩, _⟩ := x; cases hu) id
        refine Calls.mono h fun e w'' he => ?_
        cases e with
        | returned u => exact ⟨(keep a.defers u).mono ht (hall _ _), by rw [← Act.put_comm a v u h2]; exact he⟩
        | panicked c => exact he
        | outgrown => exact he
      case row row args =>
        have hall : ∀ w w', C w w' := hCn.elim (fun x => by obtain ⟨⟨u, hu⟩, _⟩ := x; cases hu) id
        exact Rows.mono h fun u w'' he => ⟨(keep a.defers u).mono ht (hall _ _), by rw [← Act.put_comm a v u h2]; exact he⟩
    | halt x w' =>
      cases x <;> simp only [Oper.upon] at h ⊢
      case panic u => exact h
  · rename_i hw
    rw [if_neg hw] at h
    exact ⟨keep a.defers undef, by rw [← Act.put_comm a v undef h2]; exact h⟩

/-- The other way: 'j' (which yields v whatever the world) goes first, 'i' behind it. -/
theorem op'_swap {i : Nat} {oi : Oper} {oj : Oper} {v : Value} (hi : ops[i]? = some oi) (hap : oj.apart ops oi = true) (hsi : ∀ cs b, oi.op ≠ .select cs b) {K : Act → World → Prop} {a : Act} {w : World}
    (h : op' P ops L i (fun a' w' => K (a'.put oj.dst v) w') a w) : op' P ops L i K (a.put oj.dst v) w := by
  obtain ⟨h1, h2, _⟩ := Oper.apart_spec hap
  unfold op' at *
  rw [hi] at h ⊢; dsimp only at h ⊢
  rw [wanted_put oi a oj.dst v h1, dyn_put h1]
  split at h
  · rename_i hw
    rw [if_pos hw]
    refine ⟨h.1, ?_⟩
    replace h := h.2
    unfold Oper.wp at *
    rw [execOp_put oi hsi a oj.dst v h1]
    generalize (execOp a.eval oi).run P w = r at *
    cases r with
    | ok n w' =>
      cases n <;> simp only [Oper.upon] at h ⊢
      case value u => rw [Act.put_comm a v u h2]; exact h
      case skip => rw [Act.put_comm a v undef h2]; exact h
      case defer d => rw [Act.put_defers, Act.put_comm _ v undef h2]; exact h
      case enter f args =>
        refine Calls.mono h fun e w'' he => ?_
        cases e with
        | returned u => show K _ _; rw [Act.put_comm a v u h2]; exact he
        | panicked c => exact he
        | outgrown => exact he
      case row row args => exact Rows.mono h fun u w'' he => by show K _ _; rw [Act.put_comm a v u h2]; exact he
    | halt x w' =>
      cases x <;> simp only [Oper.upon] at h ⊢
      case panic u => exact h
  · rename_i hw
    rw [if_neg hw, Act.put_comm a v undef h2]
    exact h

/-! ### Who may come while 'i' waits -/
def predsIn (ops : Array Oper) (R : Array Bool) (j : Nat) : Bool := ((ops[j]?).map (·.after.all fun e => !Region.binds .any e || R.getD e.on false)).getD false
def reach (ops : Array Oper) (listed : Array Bool) (i : Nat) : Array Bool :=
  (List.range ops.size).foldl (fun R j => R.setIfInBounds j (listed.getD j false || (j != i && predsIn ops R j))) (Array.replicate ops.size false)
/-- R holds what is listed, not i, and with what an operation waits for the operation. -/
def cert (ops : Array Oper) (listed : Array Bool) (i : Nat) (R : Array Bool) : Bool :=
  !R.getD i false && (List.range ops.size).all fun j => (!listed.getD j false || R.getD j false) && (j == i || !predsIn ops R j || R.getD j false)
def Within (listed R : Array Bool) : Prop := ∀ j, listed.getD j false = true → R.getD j false = true

theorem getD_lt {R : Array Bool} {j : Nat} (h : R.getD j false = true) : j < R.size := by
  rcases Nat.lt_or_ge j R.size with hl | hl
  · exact hl
  · simp [Array.getElem?_eq_none hl] at h
theorem ready_within {listed R : Array Bool} {i j : Nat} (hc : ∀ j, j < ops.size → j ≠ i → predsIn ops R j = true → R.getD j false = true) (hw : Within listed R) (hj : j ∈ Region.ready .any ops listed) (hne : j ≠ i) : R.getD j false = true := by
  obtain ⟨_, o, ho, hall⟩ := mem_ready.1 hj
  refine hc j (Array.getElem?_eq_some_iff.1 ho).1 hne ?_
  unfold predsIn
  rw [ho]
  simp only [Option.map_some, Option.getD_some, Array.all_eq_true_iff_forall_mem, Bool.or_eq_true, Bool.not_eq_true']
  intro e he
  cases hb : Region.binds .any e
  · exact .inl rfl
  · exact .inr (hw _ (hall e he hb))
theorem Within.set {listed R : Array Bool} {j : Nat} (hw : Within listed R) (hj : R.getD j false = true) : Within (listed.setIfInBounds j true) R := fun k hk => by
  by_cases hkj : j = k
  · subst hkj; exact hj
  · rw [getD_set_ne false hkj] at hk; exact hw k hk

/-- What may come before 'i' is apart from it. -/
def condQ (P : Program) (ops : Array Oper) (oi : Oper) (q : Nat) (j : Nat) : Bool :=
  match ops[j]? with
  | some oj => oi.apart ops oj && oj.apart ops oi && decide (kind P oj.op ≤ q) && (match oj.op with | .select .. => false | _ => true)
  | none => true
def okAt (P : Program) (ops : Array Oper) (listed : Array Bool) (i : Nat) : Bool :=
  match ops[i]? with
  | none => false
  | some oi =>
    let R := reach ops listed i
    cert ops listed i R &&
    (match oi.op with | .select .. => false | _ => true) &&
    (List.range ops.size).all fun j => !R.getD j false || listed.getD j true || condQ P ops oi (match kind P oi.op with | 0 => 3 | 1 => 2 | _ => 0) j

theorem cert_spec {listed R : Array Bool} {i : Nat} (h : cert ops listed i R = true) :
    R.getD i false = false ∧ (∀ j, j < ops.size → listed.getD j false = true → R.getD j false = true) ∧ ∀ j, j < ops.size → j ≠ i → predsIn ops R j = true → R.getD j false = true := by
  unfold cert at h
  simp only [Bool.and_eq_true, Bool.not_eq_true', List.all_eq_true, List.mem_range, Bool.or_eq_true, beq_iff_eq] at h
  refine ⟨h.1, fun j hj hl => ?_, fun j hj hne hp => ?_⟩
  · rcases (h.2 j hj).1 with h1 | h1
    · rw [hl] at h1; cases h1
    · exact h1
  · rcases (h.2 j hj).2 with (h1 | h1) | h1
    · exact absurd h1 hne
    · rw [hp] at h1; cases h1
    · exact h1

/-- The check at 'i' and what it says of whoever may come before it. -/
structure Before (P : Program) (ops : Array Oper) (oi : Oper) (i q : Nat) (R listed : Array Bool) : Prop where
  inR : Within listed R
  notI : R.getD i false = false
  closed : ∀ j, j < ops.size → j ≠ i → predsIn ops R j = true → R.getD j false = true
  cond : ∀ j oj, ops[j]? = some oj → R.getD j false = true → listed.getD j true = false → oi.apart ops oj = true ∧ oj.apart ops oi = true ∧ kind P oj.op ≤ q ∧ ∀ cs b, oj.op ≠ .select cs b

theorem Before.set {oi : Oper} {i q j : Nat} {R listed : Array Bool} (h : Before P ops oi i q R listed) (hj : j ∈ Region.ready .any ops listed) (hne : j ≠ i) : Before P ops oi i q R (listed.setIfInBounds j true) :=
  ⟨h.inR.set (ready_within h.closed h.inR hj hne), h.notI, h.closed, fun k ok hk hR hl => by
    refine h.cond k ok hk hR ?_
    by_cases hjk : j = k
    · subst hjk; exact (mem_ready.1 hj).1
    · rwa [getD_set_ne true hjk] at hl⟩

theorem okAt_spec {listed : Array Bool} {i : Nat} {oi : Oper} (hi : ops[i]? = some oi) (hs : listed.size = ops.size) (h : okAt P ops listed i = true) :
    (∀ cs b, oi.op ≠ .select cs b) ∧ Before P ops oi i (match kind P oi.op with | 0 => 3 | 1 => 2 | _ => 0) (reach ops listed i) listed := by
  unfold okAt at h
  rw [hi] at h
  dsimp only at h
  simp only [Bool.and_eq_true, List.all_eq_true, List.mem_range, Bool.or_eq_true, Bool.not_eq_true'] at h
  obtain ⟨⟨hc, hsel⟩, hall⟩ := h
  obtain ⟨c1, c2, c3⟩ := cert_spec hc
  refine ⟨(fun cs b he => by rw [he] at hsel; cases hsel), ⟨fun j hj => c2 j (by have := getD_lt hj; omega) hj, c1, c3, fun j oj hj hR hl => ?_⟩⟩
  have hlt := (Array.getElem?_eq_some_iff.1 hj).1
  rcases hall j hlt with (h1 | h1) | h1
  · rw [hR] at h1; cases h1
  · rw [hl] at h1; cases h1
  · unfold condQ at h1
    rw [hj] at h1
    simp only [Bool.and_eq_true, decide_eq_true_eq] at h1
    exact ⟨h1.1.1.1, h1.1.1.2, h1.1.2, fun cs b he => by rw [he] at h1; cases h1.2⟩

/-- 'i' reads or reckons: first. -/
theorem first {C : World → World → Prop} (hrefl : ∀ w, C w w) (ht : ∀ x y z, C x y → C y z → C x z) {i q : Nat} {oi : Oper} {v : Value} {R : Array Bool} (hi : ops[i]? = some oi) (hsi : ∀ cs b, oi.op ≠ .select cs b)
    (hresp : ∀ oj : Oper, kind P oj.op ≤ q → Resp P C oj) :
    ∀ (n : Nat) (listed : Array Bool) (a : Act) (w : World), Before P ops oi i q R listed → i ∈ Region.ready .any ops listed → Y P ops C oi v a w →
      any' P ops L n (listed.setIfInBounds i true) (a.put oi.dst v) w → any' P ops L (n + 1) listed a w := by
  intro n
  induction n with
  | zero =>
    intro listed a w hb hr hy H
    refine ⟨fun h => (by rw [h] at hr; cases hr), fun j hj => ?_⟩
    by_cases hji : j = i
    · subst hji; exact hy.op' hi (hrefl w) H
    · have := ready_mono hj hji
      rw [H.1] at this
      cases this
  | succ n ih =>
    intro listed a w hb hr hy H
    refine ⟨fun h => (by rw [h] at hr; cases hr), fun j hj => ?_⟩
    by_cases hji : j = i
    · subst hji; exact hy.op' hi (hrefl w) H
    · obtain ⟨hjun, oj, hoj, _⟩ := mem_ready.1 hj
      obtain ⟨hap, _, hq, hsj⟩ := hb.cond j oj hoj (ready_within hb.closed hb.inR hj hji) hjun
      have h1 := H.2 j (ready_mono hj hji)
      have h2 := op'_put hrefl ht hoj hap hsi hsj (hresp oj hq) hy h1
      refine op'_mono (fun a' w' h3 => ih (listed.setIfInBounds j true) a' w' (hb.set hj hji) (ready_mono hr (Ne.symm hji)) h3.1 ?_) h2
      rw [Array.setIfInBounds_comm _ _ hji]
      exact h3.2

theorem Y_of_flat {o : Oper} {a : Act} {w w1 : World} {K : Act → World → Prop} {i : Nat} (hi : ops[i]? = some o) (hk : kind P o.op = 0) (h : op' P ops L i K a w) : ∃ v, Y P ops Any o v a w1 ∧ K (a.put o.dst v) w := by
  unfold op' at h
  rw [hi] at h; dsimp only at h
  split at h
  · rename_i hw
    obtain ⟨hd, h⟩ := h
    obtain ⟨hf, hv⟩ := flat_of_kind (P := P) (ρ := a.eval) hk hd
    unfold Oper.wp at h
    cases hr : (execOp a.eval o).run P w with
    | ok x w' =>
      obtain ⟨v, rfl⟩ := hv _ _ _ hr
      obtain ⟨rfl, hall⟩ := hf _ _ _ hr
      rw [hr] at h
      exact ⟨v, .inl ⟨hw, hd, fun w2 _ => hall w2⟩, h⟩
    | halt x w' =>
      rw [hr] at h
      cases x <;> simp only [Oper.upon] at h
      case panic u => exact (h : False).elim
  · rename_i hw
    exact ⟨undef, .inr ⟨by simpa using hw, rfl⟩, h⟩
theorem Y_of_calm {o : Oper} {a : Act} {w : World} {K : Act → World → Prop} {i : Nat} (hi : ops[i]? = some o) (hk : kind P o.op ≤ 1) (h : op' P ops L i K a w) : ∃ v, Y P ops Ext o v a w ∧ K (a.put o.dst v) w := by
  unfold op' at h
  rw [hi] at h; dsimp only at h
  split at h
  · rename_i hw
    obtain ⟨hd, h⟩ := h
    obtain ⟨hf, hv⟩ := calm_of_kind (P := P) (ρ := a.eval) hk hd
    unfold Oper.wp at h
    cases hr : (execOp a.eval o).run P w with
    | ok x w' =>
      obtain ⟨v, rfl⟩ := hv _ _ _ hr
      obtain ⟨rfl, hall⟩ := hf _ _ _ hr
      rw [hr] at h
      exact ⟨v, .inl ⟨hw, hd, fun w2 h2 => hall w2 h2⟩, h⟩
    | halt x w' =>
      rw [hr] at h
      cases x <;> simp only [Oper.upon] at h
      case panic u => exact (h : False).elim
  · rename_i hw
    exact ⟨undef, .inr ⟨by simpa using hw, rfl⟩, h⟩

theorem op'_outcome {i : Nat} {o : Oper} {K : Act → World → Prop} {a : Act} {w : World} (hi : ops[i]? = some o) (h : op' P ops L i K a w) : ∃ ds u w', K (({ a with defers := ds } : Act).put o.dst u) w' := by
  unfold op' at h
  rw [hi] at h; dsimp only at h
  split at h
  · exact wp_outcome h.2
  · exact ⟨a.defers, undef, w, h⟩

/-- 'i' writes: whoever may come before it only reckons. -/
theorem bubble {i : Nat} {oi : Oper} {R : Array Bool} (hi : ops[i]? = some oi) (hsi : ∀ cs b, oi.op ≠ .select cs b) :
    ∀ (n : Nat) (listed : Array Bool) (a : Act) (w : World), Before P ops oi i 0 R listed → i ∈ Region.ready .any ops listed →
      op' P ops L i (any' P ops L n (listed.setIfInBounds i true)) a w → any' P ops L (n + 1) listed a w := by
  intro n
  induction n with
  | zero =>
    intro listed a w hb hr H
    refine ⟨fun h => (by rw [h] at hr; cases hr), fun j hj => ?_⟩
    by_cases hji : j = i
    · subst hji; exact H
    · obtain ⟨ds, u, w', hK⟩ := op'_outcome hi H
      have := ready_mono hj hji
      rw [hK.1] at this
      cases this
  | succ n ih =>
    intro listed a w hb hr H
    refine ⟨fun h => (by rw [h] at hr; cases hr), fun j hj => ?_⟩
    by_cases hji : j = i
    · subst hji; exact H
    · obtain ⟨hjun, oj, hoj, _⟩ := mem_ready.1 hj
      obtain ⟨hap, hap', hq, hsj⟩ := hb.cond j oj hoj (ready_within hb.closed hb.inR hj hji) hjun
      have hk : kind P oj.op = 0 := by omega
      obtain ⟨_, _, h3⟩ := Oper.apart_spec hap'
      have back : ∀ ds u (v : Value) w1, Y P ops Any oj v (({ a with defers := ds } : Act).put oi.dst u) w1 → Y P ops Any oj v a w := fun ds u v w1 hy => by
        unfold Y at *
        rw [execOp_put oj hsj _ oi.dst u h3, wanted_put oj _ oi.dst u h3, dyn_put h3, eval_defers] at hy
        rcases hy with ⟨x1, x2, x3⟩ | hy
        · exact .inl ⟨x1, x2, fun w2 _ => x3 w2 trivial⟩
        · exact .inr hy
      have fwd : ∀ ds u (v : Value) w1, Y P ops Any oj v a w → Y P ops Any oj v (({ a with defers := ds } : Act).put oi.dst u) w1 := fun ds u v w1 hy => by
        unfold Y at *
        rw [execOp_put oj hsj _ oi.dst u h3, wanted_put oj _ oi.dst u h3, dyn_put h3, eval_defers]
        rcases hy with ⟨x1, x2, x3⟩ | hy
        · exact .inl ⟨x1, x2, fun w2 _ => x3 w2 trivial⟩
        · exact .inr hy
      obtain ⟨ds, u, w', hK⟩ := op'_outcome hi H
      obtain ⟨v, hy, _⟩ := Y_of_flat (w1 := w') hoj hk (hK.2 j (ready_mono hj hji))
      have hya := back ds u v w' hy
      refine hya.op' hoj trivial ?_
      refine ih (listed.setIfInBounds j true) _ w (hb.set hj hji) (ready_mono hr (Ne.symm hji)) ?_
      refine op'_swap hi hap' hsi ?_
      -- every outcome of 'i' lets 'j' yield the same
      have hpost : op' P ops L i (fun a' w' => Y P ops Any oj v a' w' ∧ any' P ops L (n + 1) (listed.setIfInBounds i true) a' w') a w := by
        unfold op' at H ⊢
        rw [hi] at H ⊢; dsimp only at H ⊢
        split
        · rename_i hw
          rw [if_pos hw] at H
          refine ⟨H.1, ?_⟩
          replace H := H.2
          unfold Oper.wp at *
          generalize (execOp a.eval oi).run P w = r at *
          cases r with
          | ok x w' =>
            cases x <;> simp only [Oper.upon] at H ⊢
            case value u => exact ⟨fwd a.defers u v _ hya, H⟩
            case skip => exact ⟨fwd a.defers undef v _ hya, H⟩
            case defer d => exact ⟨fwd _ undef v _ hya, H⟩
            case enter f args =>
              refine Calls.mono H fun e w'' he => ?_
              cases e with
              | returned u => exact ⟨fwd a.defers u v _ hya, he⟩
              | panicked c => exact he
              | outgrown => exact he
            case row row args => exact Rows.mono H fun u w'' he => ⟨fwd a.defers u v _ hya, he⟩
          | halt x w' =>
            cases x <;> simp only [Oper.upon] at H ⊢
            case panic u => exact H
        · rename_i hw
          rw [if_neg hw] at H
          exact ⟨fwd a.defers undef v _ hya, H⟩
      refine op'_mono (fun a' w' h4 => ?_) hpost
      obtain ⟨hy4, h4⟩ := h4
      obtain ⟨v', hy', h5⟩ := Y_of_flat (w1 := w') hoj hk (h4.2 j (ready_mono hj hji))
      have hv : v' = v := by
        rcases hy4 with ⟨x1, _, x3⟩ | ⟨x1, x2⟩
        · rcases hy' with ⟨_, _, y3⟩ | ⟨y1, _⟩
          · have e1 := x3 w' trivial
            have e2 := y3 w' trivial
            rw [e1] at e2
            injection e2 with e2 _
            injection e2 with e2
            exact e2.symm
          · rw [x1] at y1; cases y1
        · rcases hy' with ⟨y1, _, _⟩ | ⟨_, y2⟩
          · rw [x1] at y1; cases y1
          · rw [x2, y2]
      subst hv
      rw [Array.setIfInBounds_comm _ _ hji]
      exact h5

/-! ### The whole region -/
def seqOK (P : Program) (ops : Array Oper) : List Nat → Array Bool → Bool
  | [], listed => (Region.ready .any ops listed).isEmpty
  | i :: rest, listed => (Region.ready .any ops listed).contains i && okAt P ops listed i && seqOK P ops rest (listed.setIfInBounds i true)

def seqW (P : Program) (ops : Array Oper) (L : Act → World → Prop) : List Nat → Act → World → Prop
  | [], a, w => L a w
  | i :: rest, a, w => op' P ops L i (seqW P ops L rest) a w

theorem any'_of_seq : ∀ (todo : List Nat) (listed : Array Bool) (a : Act) (w : World), listed.size = ops.size → seqOK P ops todo listed = true → seqW P ops L todo a w → any' P ops L todo.length listed a w
  | [], listed, a, w, _, hB, h => ⟨by simpa [seqOK] using hB, h⟩
  | i :: rest, listed, a, w, hs, hB, h => by
    simp only [seqOK, Bool.and_eq_true] at hB
    obtain ⟨⟨hr, hok⟩, hB'⟩ := hB
    have hr' : i ∈ Region.ready .any ops listed := by simpa using hr
    obtain ⟨_, oi, hi, _⟩ := mem_ready.1 hr'
    obtain ⟨hsi, hb⟩ := okAt_spec hi hs hok
    have H : op' P ops L i (any' P ops L rest.length (listed.setIfInBounds i true)) a w := op'_mono (fun a w h => any'_of_seq rest _ a w (by simpa using hs) hB' h) h
    have hk3 : kind P oi.op = 0 ∨ kind P oi.op = 1 ∨ 2 ≤ kind P oi.op := by omega
    rcases hk3 with hk | hk | hk
    · obtain ⟨v, hy, hK⟩ := Y_of_flat (w1 := w) hi hk H
      exact first (C := Any) (fun _ => trivial) (fun _ _ _ _ _ => trivial) hi hsi (fun _ _ => .inl fun _ _ => trivial) _ listed a w hb hr' hy hK
    · obtain ⟨v, hy, hK⟩ := Y_of_calm hi (by omega) H
      rw [hk] at hb
      exact first (C := Ext) Ext.refl (fun _ _ _ => Ext.trans) hi hsi (fun _ hq => .inr ⟨hq, fun _ _ h => h⟩) _ listed a w hb hr' hy hK
    · have hb' : Before P ops oi i 0 (reach ops listed i) listed := by
        have : (match kind P oi.op with | 0 => 3 | 1 => 2 | _ => 0) = 0 := by
          split
          · omega
          · omega
          · rfl
        rw [this] at hb
        exact hb
      exact bubble hi hsi _ listed a w hb' hr' H

def plainAll (P : Program) (l : List Oper) (a : Act) : Bool := l.all fun o => dyn P o.op a.eval

def isDyn : Op → Bool
  | .binOp .. => true
  | .convert .. => true
  | _ => false
/-- Behind an operation of those nobody writes what it took. -/
def keptB : List Oper → Bool
  | [] => true
  | o :: rest => (!isDyn o.op || o.op.operands.all fun x => match x with
      | .tmp t => (o :: rest).all fun o' => o'.dst != some t
      | _ => true) && keptB rest

theorem wpList_final {l : List Oper} : ∀ (a : Act) (w : World), wpList P ops (SQ L) l a w → ∃ a' w', L a' w' ∧ ∀ x : Operand, (∀ t, x = .tmp t → ∀ o ∈ l, o.dst ≠ some t) → a'.eval x = a.eval x := by
  induction l with
  | nil => exact fun a w h => ⟨a, w, h, fun _ _ => rfl⟩
  | cons o l ih =>
    intro a w h
    unfold wpList at h
    have step : ∃ ds u w', wpList P ops (SQ L) l (({ a with defers := ds } : Act).put o.dst u) w' := by
      split at h
      · rcases h with h | h
        · exact wp_outcome h
        · exact (not_letsOut h.2).elim
      · exact ⟨a.defers, undef, w, h⟩
    obtain ⟨ds, u, w', hK⟩ := step
    obtain ⟨a', w2, hL, he⟩ := ih _ _ hK
    refine ⟨a', w2, hL, fun x hx => (he x fun t ht o' ho' => hx t ht o' (List.mem_cons_of_mem _ ho')).trans ?_⟩
    rw [Act.eval_put fun d hd hxd => hx d hxd o (List.mem_cons_self ..) hd, eval_defers]

theorem seq_of_list {L : Act → World → Prop} {full : List Oper} : ∀ (l : List Oper) (k : Nat) (a : Act) (w : World), (∀ j, l[j]? = ops[k + j]?) → (∀ o ∈ l, o ∈ full) → keptB l = true →
    wpList P ops (SQ fun a w => plainAll P full a = true ∧ L a w) l a w → seqW P ops L (List.range' k l.length) a w
  | [], k, a, w, _, _, _, h => h.2
  | o :: l, k, a, w, hl, hf, hB, h => by
    have h0 : ops[k]? = some o := by simpa using (hl 0).symm
    simp only [keptB, Bool.and_eq_true, Bool.or_eq_true, Bool.not_eq_true'] at hB
    have hd : dyn P o.op a.eval = true := by
      obtain ⟨a', w', ⟨hp, _⟩, he⟩ := wpList_final _ _ h
      have h1 : dyn P o.op a'.eval = true := List.all_eq_true.1 hp o (hf o (List.mem_cons_self ..))
      cases hD : isDyn o.op with
      | false => cases ho : o.op <;> rw [ho] at hD <;> simp only [isDyn, Bool.true_eq_false] at hD <;> rfl
      | true =>
        rw [← h1]
        refine (dyn_congr fun x hx => he x fun t ht o' ho' heq => ?_).symm
        have h2 := hB.1.resolve_left (by rw [hD]; simp)
        have h3 := Array.all_eq_true_iff_forall_mem.1 h2 x hx
        subst ht
        have h4 := List.all_eq_true.1 h3 o' ho'
        simp [heq] at h4
    simp only [List.length_cons, List.range'_succ, seqW]
    unfold wpList at h
    unfold op'
    rw [h0]; dsimp only
    have mono : ∀ a w, wpList P ops (SQ fun a w => plainAll P full a = true ∧ L a w) l a w → seqW P ops L (List.range' (k + 1) l.length) a w := fun a w hh =>
      seq_of_list l (k + 1) a w (fun j => by have := hl (j + 1); simpa [Nat.add_assoc, Nat.add_comm 1 j] using this) (fun o ho => hf o (List.mem_cons_of_mem _ ho)) hB.2 hh
    have sq : ∀ e a w, SQ (fun a w => plainAll P full a = true ∧ L a w) e a w → SQ L e a w := fun e a w h => by
      cases e <;> first | exact h.2 | exact h
    split
    · rename_i hw
      rw [if_pos hw] at h
      rcases h with h | h
      · refine ⟨hd, ?_⟩
        have h' := Oper.wp_mono mono h
        unfold Oper.wp at *
        generalize (execOp a.eval o).run P w = r at *
        cases r with
        | ok x w' =>
          cases x <;> simp only [Oper.upon] at h' ⊢
          case value v => exact h'
          case skip => exact h'
          case defer d => exact h'
          case enter f args =>
            refine Calls.mono h' fun e w'' he => ?_
            cases e with
            | returned u => exact he
            | panicked c => exact he
            | outgrown => exact (not_letsOut he).elim
          case row row args => exact h'
        | halt x w' =>
          cases x <;> simp only [Oper.upon] at h' ⊢
          case panic v => exact (h' : False).elim
      · exact (not_letsOut h.2).elim
    · rename_i hw
      rw [if_neg hw] at h
      exact mono _ _ h

/-- THE CHECK, a closed Bool. -/
def regionOK (P : Program) (l : List Oper) : Bool := seqOK P l.toArray (List.range l.length) (Array.replicate l.length false) && keptB l

/-- THE REGION, IN THE ORDER OF THE TEXT. -/
theorem wp_region_text {id : Nat} {l : List Oper} {Q : Exit → Act → World → Prop} {a : Act} {w : World} (hm : P.follows .mixedOrders = true) (hB : regionOK P l = true)
    (h : wpList P l.toArray (SQ fun a w => plainAll P l a = true ∧ Q .normal a w) l a w.drew) : (Code.region id l.toArray true).wp P Q a w := by
  simp only [regionOK, Bool.and_eq_true] at hB
  have h1 : seqW P l.toArray (Q .normal) (List.range' 0 l.length) a w.drew := seq_of_list l 0 a w.drew (by simp) (fun _ h => h) hB.2 h
  rw [← List.range_eq_range'] at h1
  have h2 := any'_of_seq (List.range l.length) _ a w.drew (by simp) hB.1 h1
  have h3 := any'_wpAny _ _ _ _ h2
  rw [List.length_range] at h3
  refine Code.wp_mono (Q := SQ (Q .normal)) (fun e a w q => by cases e <;> first | exact q | exact q.elim) (wp_region_any hm ?_)
  simpa using h3
theorem sq_done {l : List Oper} {L : Act → World → Prop} {a : Act} {w : World} (h : plainAll P l a = true) (hq : L a w) : SQ (fun a w => plainAll P l a = true ∧ L a w) .normal a w := ⟨h, hq⟩
end
end Go.Lex
