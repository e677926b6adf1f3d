/-
  A region that draws its order, told operation by operation: each one from what it reads, in whatever world the others may have left; what it yields stays true as the world grows.
-/
import Derived.Test.YtjnhplgdbdneiaaLex3
set_option linter.unusedSimpArgs false
set_option linter.unusedVariables false
namespace Go.Lex
section
variable {P : Program}

def dstOf (l : List Oper) (p : Nat) : Option Tmp := (l[p]?).bind (·.dst)
def preds (l : List Oper) (i : Nat) : List Nat := match l[i]? with
  | some o => (o.after.toList.filter (Region.binds .any ·)).map (·.on)
  | none => []
def isSelect : Op → Bool
  | .select .. => true
  | _ => false
/-- THE CHECK, a closed Bool: D tells of each operation whose yields it reads. -/
def eachOK (l : List Oper) (D : List (List Nat)) : Bool :=
  (List.range l.length).all fun i => match l[i]? with
    | none => false
    | some o => !isSelect o.op && (preds l i).all (fun p => decide (p < i)) && (D.getD i []).all (fun p => (preds l i).contains p) && decide ((D.getD i []).Nodup) &&
      (List.range l.length).all fun p => match dstOf l p with
        | none => true
        | some d => p == i || ((D.getD i []).contains p || (preds l p).contains i || !(o.looksAt l.toArray).contains d) && o.dst != some d
/-- The yields are laid. -/
def puts (l : List Oper) (vals : Nat → Value) : List Nat → Act → Act
  | [], a => a
  | p :: ps, a => puts l vals ps (a.put (dstOf l p) (vals p))
@[reducible] def WithDeps (l : List Oper) (Φ : Nat → Value → World → Prop) (w : World) : List Nat → (Act → Prop) → Act → Prop
  | [], K, a => K a
  | p :: ps, K, a => ∀ v, Φ p v w → WithDeps l Φ w ps K (a.put (dstOf l p) v)
def rd (a : Act) : Option Tmp → Value
  | some d => a.tmps.getD d undef
  | none => undef

section
variable {l : List Oper} {vals : Nat → Value} {a : Act} {w : World} {Φ : Nat → Value → World → Prop}
theorem withDeps_elim {K : Act → Prop} : ∀ {ps : List Nat} {a : Act}, WithDeps l Φ w ps K a → (∀ p ∈ ps, Φ p (vals p) w) → K (puts l vals ps a)
  | [], _, h, _ => h
  | p :: ps, a, h, hv => withDeps_elim (ps := ps) (a := a.put (dstOf l p) (vals p)) (h (vals p) (hv p (by simp))) fun q hq => hv q (by simp [hq])
theorem puts_append : ∀ (ps qs : List Nat) (a : Act), puts l vals (ps ++ qs) a = puts l vals qs (puts l vals ps a)
  | [], _, _ => rfl
  | p :: ps, qs, a => puts_append ps qs _
theorem puts_perm {ps qs : List Nat} (h : ps.Perm qs) (hn : ps.Nodup) (hd : ∀ p ∈ ps, ∀ q ∈ ps, p ≠ q → ∀ d, dstOf l p = some d → dstOf l q ≠ some d) : ∀ a, puts l vals ps a = puts l vals qs a := by
  induction h with
  | nil => exact fun a => rfl
  | cons x _ ih =>
    intro a
    exact ih (List.nodup_cons.1 hn).2 (fun p hp q hq => hd p (by simp [hp]) q (by simp [hq])) _
  | swap x y ps =>
    intro a
    have hxy : y ≠ x := by
      have := (List.nodup_cons.1 hn).1
      simp at this
      exact this.1
    show puts l vals ps ((a.put (dstOf l y) (vals y)).put (dstOf l x) (vals x)) = puts l vals ps ((a.put (dstOf l x) (vals x)).put (dstOf l y) (vals y))
    rw [Act.put_comm a (x := dstOf l y) (y := dstOf l x) (vals y) (vals x) (fun d h1 => hd y (by simp) x (by simp) hxy d h1)]
  | trans h1 h2 ih1 ih2 =>
    intro a
    rw [ih1 hn hd a]
    exact ih2 (h1.nodup_iff.1 hn) (fun p hp q hq => hd p (h1.mem_iff.2 hp) q (h1.mem_iff.2 hq)) a
theorem puts_size : ∀ (ps : List Nat) (a : Act), (puts l vals ps a).tmps.size = a.tmps.size
  | [], _ => rfl
  | p :: ps, a => (puts_size ps _).trans (by cases h : dstOf l p <;> simp [Act.put])
theorem puts_defers : ∀ (ps : List Nat) (a : Act), (puts l vals ps a).defers = a.defers
  | [], _ => rfl
  | p :: ps, a => (puts_defers ps _).trans (by cases h : dstOf l p <;> rfl)
theorem puts_congr {vals' : Nat → Value} : ∀ (ps : List Nat) (a : Act), (∀ p ∈ ps, vals p = vals' p) → puts l vals ps a = puts l vals' ps a
  | [], _, _ => rfl
  | p :: ps, a, h => by
    show puts l vals ps _ = puts l vals' ps _
    rw [h p (by simp)]
    exact puts_congr ps _ fun q hq => h q (by simp [hq])
theorem puts_far {ops : Array Oper} {o : Oper} (hs : ∀ cs b, o.op ≠ .select cs b) : ∀ (ps : List Nat) (a : Act), (∀ p ∈ ps, ∀ d, dstOf l p = some d → d ∉ o.looksAt ops) →
    execOp (puts l vals ps a).eval o = execOp a.eval o ∧ Region.wanted o (yielded ops (puts l vals ps a).tmps) = Region.wanted o (yielded ops a.tmps)
  | [], _, _ => ⟨rfl, rfl⟩
  | p :: ps, a, h => by
    obtain ⟨h1, h2⟩ := puts_far hs ps (a.put (dstOf l p) (vals p)) fun q hq => h q (by simp [hq])
    exact ⟨h1.trans (execOp_put o hs a _ _ (h p (by simp))), h2.trans (wanted_put o a _ _ (h p (by simp)))⟩
end
theorem nodup_lt : ∀ (n : Nat) (l : List Nat), l.Nodup → (∀ x ∈ l, x < n) → l.length ≤ n
  | 0, [], _, _ => Nat.le_refl _
  | 0, x :: l, _, h => absurd (h x (by simp)) (Nat.not_lt_zero _)
  | n + 1, l, hd, h => by
    by_cases hm : n ∈ l
    · have h1 := nodup_lt n (l.erase n) (hd.erase n) fun x hx => by
        have h2 := h x (List.mem_of_mem_erase hx)
        have h3 : x ≠ n := fun e => by subst e; exact (List.Nodup.not_mem_erase hd) hx
        omega
      rw [List.length_erase_of_mem hm] at h1
      omega
    · have h1 := nodup_lt n l hd fun x hx => by
        have h2 := h x hx
        have h3 : x ≠ n := fun e => hm (e ▸ hx)
        omega
      omega
/-- A value as an operation's own slot keeps it. -/
def vv : Option Tmp → Value → Value
  | some _, v => v
  | none, _ => undef
theorem put_vv (a : Act) (dst : Option Tmp) (v : Value) : a.put dst v = a.put dst (vv dst v) := by cases dst <;> rfl
theorem rd_put {a : Act} {dst : Option Tmp} (v : Value) (h : ∀ d, dst = some d → d < a.tmps.size) : rd (a.put dst v) dst = vv dst v := by
  cases dst with
  | none => rfl
  | some d => simp [rd, vv, Act.put, h d rfl]
/-- The way on, or a panic. -/
def SQP (L : Act → World → Prop) (Pa : List PanicEntry → World → Prop) : Exit → Act → World → Prop
  | .normal, a, w => L a w
  | .panic ch, _, w => Pa ch w
  | _, _, _ => False
def QQ (Q : Exit → Act → World → Prop) : Exit → Act → World → Prop
  | .normal, a, w => Q .normal a w
  | .panic ch, a, w => Q (.panic ch) a w
  | _, _, _ => False
theorem notP {L : Act → World → Prop} {Pa : List PanicEntry → World → Prop} : ¬ LetsOut (SQP L Pa) := fun ⟨_, _, h⟩ => h
/-- A CLOSED CHECK: A tells of each operation some that must stand ahead of it. -/
def ancOK (l : List Oper) (A : List (List Nat)) : Bool :=
  (List.range l.length).all fun p => (A.getD p []).all fun q => (preds l p).contains q || (preds l p).any fun m => decide (m < p) && (A.getD m []).contains q
theorem anc_mem {l : List Oper} {A : List (List Nat)} (hA : ancOK l A = true) {ps : List Nat} (hcl : ∀ p ∈ ps, ∀ q ∈ preds l p, q ∈ ps) (_ : ∀ p ∈ ps, ∀ q ∈ preds l p, q < p) (hlt : ∀ p ∈ ps, p < l.length) : ∀ p, p ∈ ps → ∀ q ∈ A.getD p [], q ∈ ps := by
  intro p
  induction p using Nat.strongRecOn with
  | _ p ih =>
    intro hp q hq
    have h1 := List.all_eq_true.1 hA p (List.mem_range.2 (hlt p hp))
    have h2 := List.all_eq_true.1 h1 q hq
    rw [Bool.or_eq_true] at h2
    rcases h2 with h2 | h2
    · exact hcl p hp q (by simpa using h2)
    · obtain ⟨m, hm, h3⟩ := List.any_eq_true.1 h2
      simp only [Bool.and_eq_true, decide_eq_true_eq, List.contains_eq_mem] at h3
      exact ih m h3.1 (hcl p hp m hm) q h3.2
/-- What an operation yielded must stay when another one is done: the other one may come behind it, and somebody still wants it. -/
def needB (n : Nat) (A D : List (List Nat)) (E : List Nat) (i p : Nat) : Bool :=
  decide (i < n) && decide (p < n) && (p != i) && !(A.getD p []).contains i && (E.contains p || (List.range n).any fun k => (k != i) && !(A.getD i []).contains k && (D.getD k []).contains p)
def keepB (n : Nat) (A : List (List Nat)) (i q : Nat) : Bool := decide (i < n) && decide (q < n) && (q != i) && !(A.getD i []).contains q
theorem wp_region_eachA {id : Nat} {l : List Oper} {Q : Exit → Act → World → Prop} {a : Act} {w : World} (hm : P.follows .mixedOrders = true) (D : List (List Nat)) (hB : eachOK l D = true)
    (hsz : (l.all fun (o : Oper) => match o.dst with | some d => decide (d < a.tmps.size) | none => true) = true) (A : List (List Nat)) (hA : ancOK l A = true) (E : List Nat) (I : Nat → World → Prop) (hI0 : ∀ i, i < l.length → I i w.drew) (R : Nat → World → World → Prop)
    (Φ : Nat → Value → World → Prop) (Pa : List PanicEntry → World → Prop) (hst : ∀ i p v w w', needB l.length A D E i p = true → Φ p v w → R i w w' → Φ p v w')
    (hIst : ∀ i q w w', keepB l.length A i q = true → I q w → R i w w' → I q w')
    (hops : ∀ (i : Nat) (o : Oper), l[i]? = some o → ∀ w', I i w' → WithDeps l Φ w' (D.getD i []) (fun b => wpList P l.toArray (SQP (fun b' w'' => Φ i (rd b' o.dst) w'' ∧ R i w' w'' ∧ b'.defers = a.defers) Pa) [o] b w') a)
    (hpan : ∀ ch a' w'', a'.defers = a.defers → Pa ch w'' → Q (.panic ch) a' w'')
    (hend : ∀ w', WithDeps l (fun p v w => E.contains p = true → Φ p v w) w' (List.range l.length) (fun b => Q .normal b w') a) : (Code.region id l.toArray true).wp P Q a w := by
  have hlen : l.toArray.size = l.length := by simp
  have hchk : ∀ i o, l[i]? = some o → (∀ cs b, o.op ≠ .select cs b) ∧ (∀ p ∈ preds l i, p < i) ∧ (∀ p ∈ D.getD i [], p ∈ preds l i) ∧ (D.getD i []).Nodup ∧
      ∀ p d, p < l.length → dstOf l p = some d → p = i ∨ ((p ∈ D.getD i [] ∨ i ∈ preds l p ∨ d ∉ o.looksAt l.toArray) ∧ o.dst ≠ some d) := fun i o ho => by
    have hi : i < l.length := (List.getElem?_eq_some_iff.1 ho).1
    have h := List.all_eq_true.1 hB i (List.mem_range.2 hi)
    rw [ho] at h
    simp only [Bool.and_eq_true] at h
    obtain ⟨⟨⟨⟨h1, h2⟩, h3⟩, h4⟩, h5⟩ := h
    refine ⟨fun cs b he => by rw [he] at h1; simp [isSelect] at h1, fun p hp => by simpa using List.all_eq_true.1 h2 p hp, fun p hp => by simpa using List.all_eq_true.1 h3 p hp, by simpa using h4, fun p d hp hd => ?_⟩
    have h6 := List.all_eq_true.1 h5 p (List.mem_range.2 hp)
    rw [hd] at h6
    simp only [Bool.or_eq_true, Bool.and_eq_true, beq_iff_eq, List.contains_eq_mem, decide_eq_true_eq, Bool.not_eq_true', decide_eq_false_iff_not, bne_iff_ne] at h6
    rcases h6 with h6 | ⟨h6, h7⟩
    · exact .inl h6
    · exact .inr ⟨by rcases h6 with (h6 | h6) | h6; exact .inl h6; exact .inr (.inl h6); exact .inr (.inr h6), h7⟩
  have hdist : ∀ p q d, p < l.length → q < l.length → p ≠ q → dstOf l p = some d → dstOf l q ≠ some d := fun p q d hp hq hne h1 h2 => by
    obtain ⟨o, ho⟩ : ∃ o, l[q]? = some o := ⟨_, List.getElem?_eq_getElem hq⟩
    rcases (hchk q o ho).2.2.2.2 p d hp h1 with e | ⟨_, e⟩
    · exact hne e
    · unfold dstOf at h2
      rw [ho] at h2
      exact e h2
  have hszd : ∀ (i : Nat) (o : Oper), l[i]? = some o → ∀ d, o.dst = some d → d < a.tmps.size := fun i o ho d hd => by
    have h := List.all_eq_true.1 hsz o (List.mem_of_getElem? ho)
    rw [hd] at h
    simpa using h
  have main : ∀ (n : Nat) (listed : Array Bool) (w' : World) (ps : List Nat) (vals : Nat → Value), (∀ i, i < l.length → i ∉ ps → I i w') → listed.size = l.length → ps.Nodup → (∀ p, p ∈ ps ↔ listed.getD p false = true) → (∀ p ∈ ps, p < l.length) →
      (∀ p ∈ ps, (E.contains p = true ∨ ∃ k, k < l.length ∧ k ∉ ps ∧ p ∈ D.getD k []) → Φ p (vals p) w') → (∀ p ∈ ps, ∀ q ∈ preds l p, q ∈ ps) → ps.length + n = l.length → wpAny P .any l.toArray (QQ Q) n listed (puts l vals ps a) w' := by
    have hfin : ∀ (w' : World) (ps : List Nat) (vals : Nat → Value), ps.Nodup → (∀ p, p ∈ ps ↔ p < l.length) → (∀ p ∈ ps, E.contains p = true → Φ p (vals p) w') → Q .normal (puts l vals ps a) w' := fun w' ps vals hn hps hv => by
      have hp : ps.Perm (List.range l.length) := (List.perm_ext_iff_of_nodup hn List.nodup_range).2 fun p => by rw [hps, List.mem_range]
      rw [puts_perm hp hn (fun p hp q hq hne d => hdist p q d ((hps p).1 hp) ((hps q).1 hq) hne) a]
      exact withDeps_elim (hend w') fun p hp => hv p ((hps p).2 (List.mem_range.1 hp))
    intro n
    induction n with
    | zero =>
      intro listed w' ps vals hR hls hn hps hlt hv hcl hl
      have hall : ∀ p, p < l.length → p ∈ ps := fun p hp => by
        by_cases hm : p ∈ ps
        · exact hm
        · have := nodup_lt l.length (p :: ps) (List.nodup_cons.2 ⟨hm, hn⟩) (fun x hx => by
            rcases List.mem_cons.1 hx with rfl | hx
            · exact hp
            · exact hlt x hx)
          simp at this
          omega
      refine ⟨?_, hfin w' ps vals hn (fun p => ⟨hlt p, hall p⟩) (fun p hp hE => hv p hp (.inl hE))⟩
      rw [List.eq_nil_iff_forall_not_mem]
      intro i hi
      obtain ⟨h1, o, ho, _⟩ := mem_ready.1 hi
      have hi2 : i < l.length := by
        have := (Array.getElem?_eq_some_iff.1 ho).1
        simpa using this
      have h2 := (hps i).1 (hall i hi2)
      rw [Array.getD_eq_getD_getElem?, Array.getElem?_eq_getElem (by rw [hls]; exact hi2)] at h1 h2
      simp at h1 h2
      rw [h1] at h2
      cases h2
    | succ n ih =>
      intro listed w' ps vals hR hls hn hps hlt hv hcl hl
      refine ⟨fun hnil => ?_, fun i hi => ?_⟩
      · refine hfin w' ps vals hn (fun p => ⟨hlt p, fun hp => ?_⟩) (fun p hp hE => hv p hp (.inl hE))
        induction p using Nat.strongRecOn with
        | _ p ihp =>
          by_cases hm : p ∈ ps
          · exact hm
          · obtain ⟨o, ho⟩ : ∃ o, l[p]? = some o := ⟨_, List.getElem?_eq_getElem hp⟩
            have hr : p ∈ Region.ready .any l.toArray listed := mem_ready.2 ⟨by
              have h2 : ¬ listed.getD p false = true := fun e => hm ((hps p).2 e)
              rw [Array.getD_eq_getD_getElem?, Array.getElem?_eq_getElem (by rw [hls]; exact hp)] at h2 ⊢
              simpa using h2, o, by simpa using ho, fun e he hb => (hps _).1 (ihp e.on ?_ ?_)⟩
            · rw [hnil] at hr; cases hr
            · exact (hchk p o ho).2.1 e.on (by
                unfold preds
                rw [ho]
                exact List.mem_map.2 ⟨e, List.mem_filter.2 ⟨by simpa using he, hb⟩, rfl⟩)
            · have := (hchk p o ho).2.1 e.on (by
                unfold preds
                rw [ho]
                exact List.mem_map.2 ⟨e, List.mem_filter.2 ⟨by simpa using he, hb⟩, rfl⟩)
              omega
      · obtain ⟨h1, o, ho, haft⟩ := mem_ready.1 hi
        have ho' : l[i]? = some o := by simpa using ho
        have hi2 : i < l.length := (List.getElem?_eq_some_iff.1 ho').1
        have hni : i ∉ ps := fun e => by
          have h2 := (hps i).1 e
          rw [Array.getD_eq_getD_getElem?, Array.getElem?_eq_getElem (by rw [hls]; exact hi2)] at h1 h2
          simp at h1 h2
          rw [h1] at h2
          cases h2
        obtain ⟨c1, c2, c3, c4, c5⟩ := hchk i o ho'
        have hpre : ∀ q ∈ preds l i, q ∈ ps := fun q hq => by
          unfold preds at hq
          rw [ho'] at hq
          obtain ⟨e, he, rfl⟩ := List.mem_map.1 hq
          obtain ⟨he1, he2⟩ := List.mem_filter.1 he
          exact (hps _).2 (haft e (by simpa using he1) he2)
        have hlp : ∀ q ∈ ps, ∀ m ∈ preds l q, m < q := fun q hq => by
          obtain ⟨o', ho''⟩ : ∃ o', l[q]? = some o' := ⟨_, List.getElem?_eq_getElem (hlt q hq)⟩
          exact (hchk q o' ho'').2.1
        have hancI : ∀ q ∈ A.getD i [], q ∈ ps := fun q hq => by
          have h1 := List.all_eq_true.1 hA i (List.mem_range.2 hi2)
          have h2 := List.all_eq_true.1 h1 q hq
          rw [Bool.or_eq_true] at h2
          rcases h2 with h2 | h2
          · exact hpre q (by simpa using h2)
          · obtain ⟨m, hm, h3⟩ := List.any_eq_true.1 h2
            simp only [Bool.and_eq_true, decide_eq_true_eq, List.contains_eq_mem] at h3
            exact anc_mem hA hcl hlp hlt m (hpre m hm) q h3.2
        obtain ⟨rest, hrest⟩ : ∃ rest, rest = ps.filter fun p => !(D.getD i []).contains p := ⟨_, rfl⟩
        have hperm : ps.Perm (D.getD i [] ++ rest) := (List.perm_ext_iff_of_nodup hn (List.nodup_append.2 ⟨c4, by rw [hrest]; exact hn.filter _, fun x hx y hy e => by
            subst e
            rw [hrest] at hy
            have h3 := (List.mem_filter.1 hy).2
            have h4 : (D.getD i []).contains x = true := by rw [List.contains_eq_mem]; exact decide_eq_true hx
            rw [h4] at h3
            cases h3⟩)).2 fun p => by
          rw [List.mem_append, hrest, List.mem_filter]
          constructor
          · intro hp
            by_cases hm : p ∈ D.getD i []
            · exact .inl hm
            · exact .inr ⟨hp, by simpa using hm⟩
          · rintro (hp | hp)
            · exact hpre p (c3 p hp)
            · exact hp.1
        have hputs : puts l vals ps a = puts l vals rest (puts l vals (D.getD i []) a) := by
          rw [puts_perm hperm hn (fun p hp q hq hne d => hdist p q d (hlt p hp) (hlt q hq) hne) a, puts_append]
        have hfar : ∀ p ∈ rest, ∀ d, dstOf l p = some d → d ∉ o.looksAt l.toArray := fun p hp d hd => by
          rw [hrest] at hp
          obtain ⟨hp1, hp2⟩ := List.mem_filter.1 hp
          have hp3 : p ∉ D.getD i [] := by simpa using hp2
          rcases c5 p d (hlt p hp1) hd with e | ⟨e | e | e, _⟩
          · exact absurd (e ▸ hp1) hni
          · exact absurd e hp3
          · exact absurd (hcl p hp1 i e) hni
          · exact e
        obtain ⟨e1, e2⟩ := puts_far (l := l) (vals := vals) (ops := l.toArray) c1 rest (puts l vals (D.getD i []) a) hfar
        have H := withDeps_elim (vals := vals) (hops i o ho' w' (hR i hi2 hni)) fun p hp => hv p (hpre p (c3 p hp)) (.inr ⟨i, hi2, hni, hp⟩)
        have hAsz : ∀ d, o.dst = some d → d < (puts l vals (D.getD i []) a).tmps.size := fun d hd => by rw [puts_size]; exact hszd i o ho' d hd
        have hAdf : (puts l vals (D.getD i []) a).defers = a.defers := puts_defers _ _
        have hdi : dstOf l i = o.dst := by unfold dstOf; rw [ho']; rfl
        have next : ∀ v w'', Φ i (vv o.dst v) w'' → R i w' w'' → wpAny P .any l.toArray (QQ Q) n (listed.setIfInBounds i true) ((puts l vals ps a).put o.dst v) w'' := fun v w'' hΦ hRR => by
          have e3 : (puts l vals ps a).put o.dst v = puts l (fun p => if p = i then vv o.dst v else vals p) (ps ++ [i]) a := by
            rw [puts_append, put_vv]
            show _ = (puts l _ ps a).put (dstOf l i) (if i = i then vv o.dst v else vals i)
            rw [if_pos rfl, hdi, puts_congr ps a (vals' := fun p => if p = i then vv o.dst v else vals p) fun p hp => by rw [if_neg (show ¬ p = i from fun e => hni (e ▸ hp))]]
          rw [e3]
          refine ih _ w'' _ _ (fun q hq hqn => hIst i q _ _ (by
            unfold keepB
            simp only [Bool.and_eq_true, decide_eq_true_eq, bne_iff_ne, ne_eq, Bool.not_eq_true', List.contains_eq_mem, decide_eq_false_iff_not]
            exact ⟨⟨⟨hi2, hq⟩, fun e => hqn (by simp [e])⟩, fun hm => hqn (List.mem_append_left _ (hancI q hm))⟩) (hR q hq fun hm => hqn (List.mem_append_left _ hm)) hRR) (by simpa using hls) ?_ (fun p => ?_) (fun p hp => ?_) (fun p hp hlive => ?_) (fun p hp q hq => ?_) (by simp; omega)
          · exact List.nodup_append.2 ⟨hn, by simp, fun x hx y hy e => by
              subst e
              obtain rfl : x = i := by simpa using hy
              exact hni hx⟩
          · rw [List.mem_append, Array.getD_eq_getD_getElem?, Array.getElem?_setIfInBounds]
            by_cases hpi : i = p
            · subst hpi
              rw [if_pos rfl, if_pos (by rw [hls]; exact hi2)]
              simp
            · rw [if_neg hpi, hps p, Array.getD_eq_getD_getElem?]
              simp
              intro e
              exact absurd e.symm hpi
          · rcases List.mem_append.1 hp with hp | hp
            · exact hlt p hp
            · obtain rfl : p = i := by simpa using hp
              exact hi2
          · rcases List.mem_append.1 hp with hp | hp
            · show Φ p (if p = i then _ else vals p) w''
              rw [if_neg (show ¬ p = i from fun e => hni (e ▸ hp))]
              have hlive2 : E.contains p = true ∨ ∃ k, k < l.length ∧ k ≠ i ∧ k ∉ A.getD i [] ∧ k ∉ ps ∧ p ∈ D.getD k [] := by
                rcases hlive with h | ⟨k, hk, hkn, hkp⟩
                · exact .inl h
                · exact .inr ⟨k, hk, fun e => hkn (by simp [e]), fun hm => hkn (List.mem_append_left _ (hancI k hm)), fun hm => hkn (List.mem_append_left _ hm), hkp⟩
              refine hst i p _ _ _ ?_ (hv p hp (hlive2.imp (fun h => h) fun ⟨k, h1, _, _, h4, h5⟩ => ⟨k, h1, h4, h5⟩)) hRR
              unfold needB
              simp only [Bool.and_eq_true, decide_eq_true_eq, bne_iff_ne, ne_eq, Bool.not_eq_true', Bool.or_eq_true]
              refine ⟨⟨⟨⟨hi2, hlt p hp⟩, fun e => hni (e ▸ hp)⟩, ?_⟩, hlive2.imp (fun h => h) fun ⟨k, h1, h2, h3, _, h5⟩ => List.any_eq_true.2 ⟨k, List.mem_range.2 h1, ?_⟩⟩
              · rw [List.contains_eq_mem, decide_eq_false_iff_not]
                exact fun hm => hni (anc_mem hA hcl hlp hlt p hp i hm)
              · simp only [Bool.and_eq_true, bne_iff_ne, ne_eq, Bool.not_eq_true', List.contains_eq_mem, decide_eq_true_eq, decide_eq_false_iff_not]
                exact ⟨⟨h2, h3⟩, h5⟩
            · obtain rfl : p = i := by simpa using hp
              show Φ p (if p = p then _ else vals p) w''
              rw [if_pos rfl]
              exact hΦ
          · rcases List.mem_append.1 hp with hp | hp
            · exact List.mem_append_left _ (hcl p hp q hq)
            · obtain rfl : p = i := by simpa using hp
              exact List.mem_append_left _ (hpre q hq)
        unfold wpOp
        rw [ho]
        dsimp only
        unfold wpList at H
        rw [hputs] at next ⊢
        rw [e2]
        split
        · rename_i hw
          rw [if_pos hw] at H
          rcases H with H | H
          · refine .inl ?_
            unfold Oper.wp at *
            rw [e1]
            generalize (execOp (puts l vals (D.getD i []) a).eval o).run P w' = r at *
            cases r with
            | ok x w2 =>
              cases x <;> simp only [Oper.upon] at H ⊢
              case value v =>
                obtain ⟨h3, h4, _⟩ := H
                rw [rd_put v hAsz] at h3
                exact next v w2 h3 h4
              case skip =>
                obtain ⟨h3, h4, _⟩ := H
                rw [rd_put undef hAsz] at h3
                exact next undef w2 h3 h4
              case defer d =>
                obtain ⟨_, _, h5⟩ := H
                exfalso
                have h6 : (({ (puts l vals (D.getD i []) a) with defers := d :: (puts l vals (D.getD i []) a).defers } : Act).put o.dst undef).defers = d :: a.defers := by
                  cases o.dst <;> (simp only [Act.put]; rw [hAdf])
                have h7 := congrArg List.length (h6.symm.trans h5)
                simp at h7
              case enter f args =>
                refine Calls.mono H fun e w'' he => ?_
                cases e with
                | returned u =>
                  obtain ⟨h3, h4, _⟩ := he
                  rw [rd_put u hAsz] at h3
                  exact next u w'' h3 h4
                | panicked c => exact hpan _ _ _ (by rw [puts_defers, puts_defers]) he
                | outgrown => exact (notP he).elim
              case row row args =>
                refine Rows.mono H fun u w'' he => ?_
                obtain ⟨h3, h4, _⟩ := he
                rw [rd_put u hAsz] at h3
                exact next u w'' h3 h4
            | halt x w2 =>
              cases x <;> simp only [Oper.upon] at H ⊢
              case panic v => exact hpan _ _ _ (by rw [puts_defers, puts_defers]) H
          · exact (notP H.2).elim
        · rename_i hw
          rw [if_neg hw] at H
          obtain ⟨h3, h4, _⟩ := H
          rw [rd_put undef hAsz] at h3
          exact next undef w' h3 h4
  refine Code.wp_mono (Q := QQ Q) (fun e a w q => by cases e <;> first | exact q | exact q.elim) (wp_region_any hm ?_)
  rw [hlen]
  exact main l.length _ w.drew [] (fun _ => undef) (fun i hi _ => hI0 i hi) (by simp) List.nodup_nil (fun p => by
    rw [Array.getD_eq_getD_getElem?]
    constructor
    · intro h; cases h
    · intro h
      by_cases hp : p < l.length
      · rw [Array.getElem?_eq_getElem (by simpa using hp)] at h
        simp at h
      · rw [Array.getElem?_eq_none (by simpa using hp)] at h
        cases h) (fun p hp => by cases hp) (fun p hp _ => by cases hp) (fun p hp => by cases hp) (by simp)
theorem wp_region_eachP {id : Nat} {l : List Oper} {Q : Exit → Act → World → Prop} {a : Act} {w : World} (hm : P.follows .mixedOrders = true) (D : List (List Nat)) (hB : eachOK l D = true)
    (hsz : (l.all fun (o : Oper) => match o.dst with | some d => decide (d < a.tmps.size) | none => true) = true) (R : World → World → Prop) (hrefl : ∀ w, R w w) (htrans : ∀ x y z, R x y → R y z → R x z)
    (Φ : Nat → Value → World → Prop) (Pa : List PanicEntry → World → Prop) (hst : ∀ i v w w', Φ i v w → R w w' → Φ i v w')
    (hops : ∀ (i : Nat) (o : Oper), l[i]? = some o → ∀ w', R w.drew w' → WithDeps l Φ w' (D.getD i []) (fun b => wpList P l.toArray (SQP (fun b' w'' => Φ i (rd b' o.dst) w'' ∧ R w' w'' ∧ b'.defers = a.defers) Pa) [o] b w') a)
    (hpan : ∀ ch a' w'', a'.defers = a.defers → Pa ch w'' → Q (.panic ch) a' w'')
    (hend : ∀ w', R w.drew w' → WithDeps l Φ w' (List.range l.length) (fun b => Q .normal b w') a) : (Code.region id l.toArray true).wp P Q a w := by
  have hlen : l.toArray.size = l.length := by simp
  have hchk : ∀ i o, l[i]? = some o → (∀ cs b, o.op ≠ .select cs b) ∧ (∀ p ∈ preds l i, p < i) ∧ (∀ p ∈ D.getD i [], p ∈ preds l i) ∧ (D.getD i []).Nodup ∧
      ∀ p d, p < l.length → dstOf l p = some d → p = i ∨ ((p ∈ D.getD i [] ∨ i ∈ preds l p ∨ d ∉ o.looksAt l.toArray) ∧ o.dst ≠ some d) := fun i o ho => by
    have hi : i < l.length := (List.getElem?_eq_some_iff.1 ho).1
    have h := List.all_eq_true.1 hB i (List.mem_range.2 hi)
    rw [ho] at h
    simp only [Bool.and_eq_true] at h
    obtain ⟨⟨⟨⟨h1, h2⟩, h3⟩, h4⟩, h5⟩ := h
    refine ⟨fun cs b he => by rw [he] at h1; simp [isSelect] at h1, fun p hp => by simpa using List.all_eq_true.1 h2 p hp, fun p hp => by simpa using List.all_eq_true.1 h3 p hp, by simpa using h4, fun p d hp hd => ?_⟩
    have h6 := List.all_eq_true.1 h5 p (List.mem_range.2 hp)
    rw [hd] at h6
    simp only [Bool.or_eq_true, Bool.and_eq_true, beq_iff_eq, List.contains_eq_mem, decide_eq_true_eq, Bool.not_eq_true', decide_eq_false_iff_not, bne_iff_ne] at h6
    rcases h6 with h6 | ⟨h6, h7⟩
    · exact .inl h6
    · exact .inr ⟨by rcases h6 with (h6 | h6) | h6; exact .inl h6; exact .inr (.inl h6); exact .inr (.inr h6), h7⟩
  have hdist : ∀ p q d, p < l.length → q < l.length → p ≠ q → dstOf l p = some d → dstOf l q ≠ some d := fun p q d hp hq hne h1 h2 => by
    obtain ⟨o, ho⟩ : ∃ o, l[q]? = some o := ⟨_, List.getElem?_eq_getElem hq⟩
    rcases (hchk q o ho).2.2.2.2 p d hp h1 with e | ⟨_, e⟩
    · exact hne e
    · unfold dstOf at h2
      rw [ho] at h2
      exact e h2
  have hszd : ∀ (i : Nat) (o : Oper), l[i]? = some o → ∀ d, o.dst = some d → d < a.tmps.size := fun i o ho d hd => by
    have h := List.all_eq_true.1 hsz o (List.mem_of_getElem? ho)
    rw [hd] at h
    simpa using h
  have main : ∀ (n : Nat) (listed : Array Bool) (w' : World) (ps : List Nat) (vals : Nat → Value), R w.drew w' → listed.size = l.length → ps.Nodup → (∀ p, p ∈ ps ↔ listed.getD p false = true) → (∀ p ∈ ps, p < l.length) →
      (∀ p ∈ ps, Φ p (vals p) w') → (∀ p ∈ ps, ∀ q ∈ preds l p, q ∈ ps) → ps.length + n = l.length → wpAny P .any l.toArray (QQ Q) n listed (puts l vals ps a) w' := by
    have hfin : ∀ (w' : World) (ps : List Nat) (vals : Nat → Value), R w.drew w' → ps.Nodup → (∀ p, p ∈ ps ↔ p < l.length) → (∀ p ∈ ps, Φ p (vals p) w') → Q .normal (puts l vals ps a) w' := fun w' ps vals hR hn hps hv => by
      have hp : ps.Perm (List.range l.length) := (List.perm_ext_iff_of_nodup hn List.nodup_range).2 fun p => by rw [hps, List.mem_range]
      rw [puts_perm hp hn (fun p hp q hq hne d => hdist p q d ((hps p).1 hp) ((hps q).1 hq) hne) a]
      exact withDeps_elim (hend w' hR) fun p hp => hv p ((hps p).2 (List.mem_range.1 hp))
    intro n
    induction n with
    | zero =>
      intro listed w' ps vals hR hls hn hps hlt hv hcl hl
      have hall : ∀ p, p < l.length → p ∈ ps := fun p hp => by
        by_cases hm : p ∈ ps
        · exact hm
        · have := nodup_lt l.length (p :: ps) (List.nodup_cons.2 ⟨hm, hn⟩) (fun x hx => by
            rcases List.mem_cons.1 hx with rfl | hx
            · exact hp
            · exact hlt x hx)
          simp at this
          omega
      refine ⟨?_, hfin w' ps vals hR hn (fun p => ⟨hlt p, hall p⟩) hv⟩
      rw [List.eq_nil_iff_forall_not_mem]
      intro i hi
      obtain ⟨h1, o, ho, _⟩ := mem_ready.1 hi
      have hi2 : i < l.length := by
        have := (Array.getElem?_eq_some_iff.1 ho).1
        simpa using this
      have h2 := (hps i).1 (hall i hi2)
      rw [Array.getD_eq_getD_getElem?, Array.getElem?_eq_getElem (by rw [hls]; exact hi2)] at h1 h2
      simp at h1 h2
      rw [h1] at h2
      cases h2
    | succ n ih =>
      intro listed w' ps vals hR hls hn hps hlt hv hcl hl
      refine ⟨fun hnil => ?_, fun i hi => ?_⟩
      · refine hfin w' ps vals hR hn (fun p => ⟨hlt p, fun hp => ?_⟩) hv
        induction p using Nat.strongRecOn with
        | _ p ihp =>
          by_cases hm : p ∈ ps
          · exact hm
          · obtain ⟨o, ho⟩ : ∃ o, l[p]? = some o := ⟨_, List.getElem?_eq_getElem hp⟩
            have hr : p ∈ Region.ready .any l.toArray listed := mem_ready.2 ⟨by
              have h2 : ¬ listed.getD p false = true := fun e => hm ((hps p).2 e)
              rw [Array.getD_eq_getD_getElem?, Array.getElem?_eq_getElem (by rw [hls]; exact hp)] at h2 ⊢
              simpa using h2, o, by simpa using ho, fun e he hb => (hps _).1 (ihp e.on ?_ ?_)⟩
            · rw [hnil] at hr; cases hr
            · exact (hchk p o ho).2.1 e.on (by
                unfold preds
                rw [ho]
                exact List.mem_map.2 ⟨e, List.mem_filter.2 ⟨by simpa using he, hb⟩, rfl⟩)
            · have := (hchk p o ho).2.1 e.on (by
                unfold preds
                rw [ho]
                exact List.mem_map.2 ⟨e, List.mem_filter.2 ⟨by simpa using he, hb⟩, rfl⟩)
              omega
      · obtain ⟨h1, o, ho, haft⟩ := mem_ready.1 hi
        have ho' : l[i]? = some o := by simpa using ho
        have hi2 : i < l.length := (List.getElem?_eq_some_iff.1 ho').1
        have hni : i ∉ ps := fun e => by
          have h2 := (hps i).1 e
          rw [Array.getD_eq_getD_getElem?, Array.getElem?_eq_getElem (by rw [hls]; exact hi2)] at h1 h2
          simp at h1 h2
          rw [h1] at h2
          cases h2
        obtain ⟨c1, c2, c3, c4, c5⟩ := hchk i o ho'
        have hpre : ∀ q ∈ preds l i, q ∈ ps := fun q hq => by
          unfold preds at hq
          rw [ho'] at hq
          obtain ⟨e, he, rfl⟩ := List.mem_map.1 hq
          obtain ⟨he1, he2⟩ := List.mem_filter.1 he
          exact (hps _).2 (haft e (by simpa using he1) he2)
        obtain ⟨rest, hrest⟩ : ∃ rest, rest = ps.filter fun p => !(D.getD i []).contains p := ⟨_, rfl⟩
        have hperm : ps.Perm (D.getD i [] ++ rest) := (List.perm_ext_iff_of_nodup hn (List.nodup_append.2 ⟨c4, by rw [hrest]; exact hn.filter _, fun x hx y hy e => by
            subst e
            rw [hrest] at hy
            have h3 := (List.mem_filter.1 hy).2
            have h4 : (D.getD i []).contains x = true := by rw [List.contains_eq_mem]; exact decide_eq_true hx
            rw [h4] at h3
            cases h3⟩)).2 fun p => by
          rw [List.mem_append, hrest, List.mem_filter]
          constructor
          · intro hp
            by_cases hm : p ∈ D.getD i []
            · exact .inl hm
            · exact .inr ⟨hp, by simpa using hm⟩
          · rintro (hp | hp)
            · exact hpre p (c3 p hp)
            · exact hp.1
        have hputs : puts l vals ps a = puts l vals rest (puts l vals (D.getD i []) a) := by
          rw [puts_perm hperm hn (fun p hp q hq hne d => hdist p q d (hlt p hp) (hlt q hq) hne) a, puts_append]
        have hfar : ∀ p ∈ rest, ∀ d, dstOf l p = some d → d ∉ o.looksAt l.toArray := fun p hp d hd => by
          rw [hrest] at hp
          obtain ⟨hp1, hp2⟩ := List.mem_filter.1 hp
          have hp3 : p ∉ D.getD i [] := by simpa using hp2
          rcases c5 p d (hlt p hp1) hd with e | ⟨e | e | e, _⟩
          · exact absurd (e ▸ hp1) hni
          · exact absurd e hp3
          · exact absurd (hcl p hp1 i e) hni
          · exact e
        obtain ⟨e1, e2⟩ := puts_far (l := l) (vals := vals) (ops := l.toArray) c1 rest (puts l vals (D.getD i []) a) hfar
        have H := withDeps_elim (vals := vals) (hops i o ho' w' hR) fun p hp => hv p (hpre p (c3 p hp))
        have hAsz : ∀ d, o.dst = some d → d < (puts l vals (D.getD i []) a).tmps.size := fun d hd => by rw [puts_size]; exact hszd i o ho' d hd
        have hAdf : (puts l vals (D.getD i []) a).defers = a.defers := puts_defers _ _
        have hdi : dstOf l i = o.dst := by unfold dstOf; rw [ho']; rfl
        have next : ∀ v w'', Φ i (vv o.dst v) w'' → R w' w'' → wpAny P .any l.toArray (QQ Q) n (listed.setIfInBounds i true) ((puts l vals ps a).put o.dst v) w'' := fun v w'' hΦ hRR => by
          have e3 : (puts l vals ps a).put o.dst v = puts l (fun p => if p = i then vv o.dst v else vals p) (ps ++ [i]) a := by
            rw [puts_append, put_vv]
            show _ = (puts l _ ps a).put (dstOf l i) (if i = i then vv o.dst v else vals i)
            rw [if_pos rfl, hdi, puts_congr ps a (vals' := fun p => if p = i then vv o.dst v else vals p) fun p hp => by rw [if_neg (show ¬ p = i from fun e => hni (e ▸ hp))]]
          rw [e3]
          refine ih _ w'' _ _ (htrans _ _ _ hR hRR) (by simpa using hls) ?_ (fun p => ?_) (fun p hp => ?_) (fun p hp => ?_) (fun p hp q hq => ?_) (by simp; omega)
          · exact List.nodup_append.2 ⟨hn, by simp, fun x hx y hy e => by
              subst e
              obtain rfl : x = i := by simpa using hy
              exact hni hx⟩
          · rw [List.mem_append, Array.getD_eq_getD_getElem?, Array.getElem?_setIfInBounds]
            by_cases hpi : i = p
            · subst hpi
              rw [if_pos rfl, if_pos (by rw [hls]; exact hi2)]
              simp
            · rw [if_neg hpi, hps p, Array.getD_eq_getD_getElem?]
              simp
              intro e
              exact absurd e.symm hpi
          · rcases List.mem_append.1 hp with hp | hp
            · exact hlt p hp
            · obtain rfl : p = i := by simpa using hp
              exact hi2
          · rcases List.mem_append.1 hp with hp | hp
            · show Φ p (if p = i then _ else vals p) w''
              rw [if_neg (show ¬ p = i from fun e => hni (e ▸ hp))]
              exact hst _ _ _ _ (hv p hp) hRR
            · obtain rfl : p = i := by simpa using hp
              show Φ p (if p = p then _ else vals p) w''
              rw [if_pos rfl]
              exact hΦ
          · rcases List.mem_append.1 hp with hp | hp
            · exact List.mem_append_left _ (hcl p hp q hq)
            · obtain rfl : p = i := by simpa using hp
              exact List.mem_append_left _ (hpre q hq)
        unfold wpOp
        rw [ho]
        dsimp only
        unfold wpList at H
        rw [hputs] at next ⊢
        rw [e2]
        split
        · rename_i hw
          rw [if_pos hw] at H
          rcases H with H | H
          · refine .inl ?_
            unfold Oper.wp at *
            rw [e1]
            generalize (execOp (puts l vals (D.getD i []) a).eval o).run P w' = r at *
            cases r with
            | ok x w2 =>
              cases x <;> simp only [Oper.upon] at H ⊢
              case value v =>
                obtain ⟨h3, h4, _⟩ := H
                rw [rd_put v hAsz] at h3
                exact next v w2 h3 h4
              case skip =>
                obtain ⟨h3, h4, _⟩ := H
                rw [rd_put undef hAsz] at h3
                exact next undef w2 h3 h4
              case defer d =>
                obtain ⟨_, _, h5⟩ := H
                exfalso
                have h6 : (({ (puts l vals (D.getD i []) a) with defers := d :: (puts l vals (D.getD i []) a).defers } : Act).put o.dst undef).defers = d :: a.defers := by
                  cases o.dst <;> (simp only [Act.put]; rw [hAdf])
                have h7 := congrArg List.length (h6.symm.trans h5)
                simp at h7
              case enter f args =>
                refine Calls.mono H fun e w'' he => ?_
                cases e with
                | returned u =>
                  obtain ⟨h3, h4, _⟩ := he
                  rw [rd_put u hAsz] at h3
                  exact next u w'' h3 h4
                | panicked c => exact hpan _ _ _ (by rw [puts_defers, puts_defers]) he
                | outgrown => exact (notP he).elim
              case row row args =>
                refine Rows.mono H fun u w'' he => ?_
                obtain ⟨h3, h4, _⟩ := he
                rw [rd_put u hAsz] at h3
                exact next u w'' h3 h4
            | halt x w2 =>
              cases x <;> simp only [Oper.upon] at H ⊢
              case panic v => exact hpan _ _ _ (by rw [puts_defers, puts_defers]) H
          · exact (notP H.2).elim
        · rename_i hw
          rw [if_neg hw] at H
          obtain ⟨h3, h4, _⟩ := H
          rw [rd_put undef hAsz] at h3
          exact next undef w' h3 h4
  refine Code.wp_mono (Q := QQ Q) (fun e a w q => by cases e <;> first | exact q | exact q.elim) (wp_region_any hm ?_)
  rw [hlen]
  exact main l.length _ w.drew [] (fun _ => undef) (hrefl _) (by simp) List.nodup_nil (fun p => by
    rw [Array.getD_eq_getD_getElem?]
    constructor
    · intro h; cases h
    · intro h
      by_cases hp : p < l.length
      · rw [Array.getElem?_eq_getElem (by simpa using hp)] at h
        simp at h
      · rw [Array.getElem?_eq_none (by simpa using hp)] at h
        cases h) (fun p hp => by cases hp) (fun p hp => by cases hp) (fun p hp => by cases hp) (by simp)
theorem wp_region_each {id : Nat} {l : List Oper} {Q : Exit → Act → World → Prop} {a : Act} {w : World} (hm : P.follows .mixedOrders = true) (D : List (List Nat)) (hB : eachOK l D = true)
    (hsz : (l.all fun (o : Oper) => match o.dst with | some d => decide (d < a.tmps.size) | none => true) = true) (R : World → World → Prop) (hrefl : ∀ w, R w w) (htrans : ∀ x y z, R x y → R y z → R x z)
    (Φ : Nat → Value → World → Prop) (hst : ∀ i v w w', Φ i v w → R w w' → Φ i v w')
    (hops : ∀ (i : Nat) (o : Oper), l[i]? = some o → ∀ w', R w.drew w' → WithDeps l Φ w' (D.getD i []) (fun b => wpList P l.toArray (SQ fun b' w'' => Φ i (rd b' o.dst) w'' ∧ R w' w'' ∧ b'.defers = a.defers) [o] b w') a)
    (hend : ∀ w', R w.drew w' → WithDeps l Φ w' (List.range l.length) (fun b => Q .normal b w') a) : (Code.region id l.toArray true).wp P Q a w := by
  have hS : ∀ L : Act → World → Prop, SQP L (fun _ _ => False) = SQ L := fun L => by
    funext e b w
    cases e <;> rfl
  refine wp_region_eachP hm D hB hsz R hrefl htrans Φ (fun _ _ => False) hst (fun i o ho w' hR => ?_) (fun _ _ _ _ h => h.elim) hend
  rw [hS]
  exact hops i o ho w' hR
end
end Go.Lex
