/-
  DiskCounts: the disk in its loop, and what is kept beside it.
-/
import Derived.Test.YthekilgolelomaaIa
set_option linter.unusedSimpArgs false
set_option linter.unusedVariables false
namespace Go.Proofs.Ythekilgolelomaa
open Go.RowKit Go.Fl

/-- A block that the disk does not turn. -/
structure Bx where
  g : Nat
  t : Nat
  cs : Array Value
/-- The disk behind k calls, and blocks beside it. -/
def CW (w wr : World) (d : Nat) (K : List Bx) (k : Nat) (all : Int) (c : Cnt) : Prop := ∃ F p fs ids, Own w wr F d p fs ids ∧ p.faults = [] ∧ p.cnt = c ∧ CN c k all ∧ p.pend.length ≤ k ∧ ∀ x ∈ K, ¬ F x.g ∧ Blk wr x.g x.t x.cs ∧ w.heap.size ≤ x.g
/-- What has been told of a call. -/
def CT (E : Int) (all all' : Int) (c c' : Cnt) : Prop := (((E = 0 ∨ E = 21) ∧ all' = all + 1) ∨ (¬ (E = 0 ∨ E = 21) ∧ all' = all)) ∧ c.by_ ≤ c'.by_
section
variable {w wr w' : World} {d k : Nat} {K : List Bx} {all : Int} {c : Cnt}
theorem CW.quiet (h : CW w wr d K k all c) (ho : Only [] wr w') : CW w w' d K k all c := by
  obtain ⟨F, p, fs, ids, h1, h2, h3, h4, h5, h6⟩ := h
  exact ⟨F, p, fs, ids, h1.quiet ho, h2, h3, h4, h5, fun x hx => ⟨(h6 x hx).1, (h6 x hx).2.1.only ho (by simp), (h6 x hx).2.2⟩⟩
theorem CW.only (h : CW w wr d K k all c) : Only [] w wr := by
  obtain ⟨F, p, fs, ids, h1, _⟩ := h
  exact h1.only
theorem CW.cn (h : CW w wr d K k all c) : CN c k all := by
  obtain ⟨F, p, fs, ids, h1, h2, h3, h4, _⟩ := h
  exact h4
theorem CW.blk (h : CW w wr d K k all c) (x : Bx) (hx : x ∈ K) : Blk wr x.g x.t x.cs := by
  obtain ⟨F, p, fs, ids, h1, h2, h3, h4, h5, h6⟩ := h
  exact (h6 x hx).2.1
theorem CW.less {K' : List Bx} (h : CW w wr d K k all c) (hk : ∀ x ∈ K', x ∈ K) : CW w wr d K' k all c := by
  obtain ⟨F, p, fs, ids, h1, h2, h3, h4, h5, h6⟩ := h
  exact ⟨F, p, fs, ids, h1, h2, h3, h4, h5, fun x hx => h6 x (hk x hx)⟩
/-- A block besides, new. -/
theorem CW.add (h : CW w wr d K k all c) (ho : Only [] wr w') {g t : Nat} {cs : Array Value} (hb : Blk w' g t cs) (hg : wr.heap.size ≤ g) : CW w w' d (⟨g, t, cs⟩ :: K) k all c := by
  have hq := h.quiet ho
  obtain ⟨F, p, fs, ids, h1, h2, h3, h4, h5, h6⟩ := h
  obtain ⟨nb, hF⟩ := h1.dk
  refine ⟨F, p, fs, ids, h1.quiet ho, h2, h3, h4, h5, fun x hx => ?_⟩
  rcases List.mem_cons.1 hx with rfl | hx
  · exact ⟨fun hf => by have := hF _ hf; dsimp only at this; omega, hb, Nat.le_trans h1.only.size hg⟩
  · exact ⟨(h6 x hx).1, (h6 x hx).2.1.only ho (by simp), (h6 x hx).2.2⟩
theorem CW.none (h : CW w wr d K k all c) : CW w wr d K (k + 1) all c := by
  obtain ⟨F, p, fs, ids, h1, h2, h3, h4, h5, h6⟩ := h
  exact ⟨F, p, fs, ids, h1, h2, h3, h4.same, by omega, h6⟩
theorem CW.count (h : CW w wr d K k all c) : Calls Try.prog 8 #[cp d] wr fun e w' => e = .returned (.agg c.cells.toArray) ∧ Only [] wr w' := by
  obtain ⟨F, p, fs, ids, h1, h2, h3, h4, h5, h6⟩ := h
  rw [← h3]
  exact count_ok h1.dk
theorem cw_told {F : Nat → Prop} {p p' : PD} {fs fs' : Nat → FD} {ids ids' : Nat → Prop} (h1 : Own w wr F d p fs ids) (h4 : CN p.cnt k all) (h5 : p.pend.length ≤ k) (h6 : ∀ x ∈ K, ¬ F x.g ∧ Blk wr x.g x.t x.cs ∧ w.heap.size ≤ x.g) (hk : k ≤ 100)
    {E : Int} (ht : Told p E p') (ha : After wr F d p' fs' ids' w') : ∃ all' c', CT E all all' p.cnt c' ∧ CW w w' d K (k + 1) all' c' := by
  obtain ⟨t1, t2, t3⟩ := ht
  have hK : ∀ x ∈ K, ¬ grow F wr w' x.g ∧ Blk w' x.g x.t x.cs ∧ w.heap.size ≤ x.g := fun x hx => by
    obtain ⟨a, b, e⟩ := h6 x hx
    exact ⟨grow_not a b.lt, Blk.turn b ha.2 a, e⟩
  rcases t3 with ⟨te, o, n, n0, n1, tc⟩ | ⟨te, tc⟩
  · obtain ⟨q1, q2⟩ := h4.one (by omega) o n0 n1
    exact ⟨all + 1, p.cnt.one o n, ⟨.inl ⟨te, rfl⟩, q2⟩, _, p', _, _, h1.step ha, t1, tc, q1, by omega, hK⟩
  · exact ⟨all, p.cnt, ⟨.inr ⟨te, rfl⟩, Int.le_refl _⟩, _, p', _, _, h1.step ha, t1, tc, h4.same, by omega, hK⟩
theorem CN.few (h : CN c k all) (hk : k ≤ 100) : 0 ≤ c.by_ ∧ c.by_ ≤ 1000000000 := by
  obtain ⟨_, _, _, _, h5⟩ := h
  omega
theorem cw_create (h : CW w wr d K k all c) (hk : k ≤ 100) (s : Nm) : Calls Try.prog 9 #[cp d, sk s] wr fun e w' => ∃ E all' c', e = .returned (iv E) ∧ CT E all all' c c' ∧ CW w w' d K (k + 1) all' c' := by
  obtain ⟨F, p, fs, ids, h1, h2, h3, h4, h5, h6⟩ := h
  subst h3
  have hb := h4.few hk
  refine (create_ok h1.dk (calm_nil h2) (by omega) s).mono ?_
  rintro e w' ⟨f, hf, rfl, ha⟩
  have ht := told_create h2 hb s f
  obtain ⟨all', c', q1, q2⟩ := cw_told h1 h4 h5 h6 hk (E := (p.create s f).1) (p' := (p.create s f).2.1) (by first | exact ht | skip) ha
  exact ⟨_, all', c', rfl, q1, q2⟩
theorem cw_append (h : CW w wr d K k all c) (hk : k ≤ 100) (s : Nm) {data : List UInt8} {v : Value} (hv : Sr w 1 v data.length (byV data)) (hl : data.length ≤ 5000) : Calls Try.prog 10 #[cp d, sk s, v] wr fun e w' => ∃ N E all' c', e = .returned (.tuple #[iv N, iv E]) ∧ CT E all all' c c' ∧ CW w w' d K (k + 1) all' c' := by
  obtain ⟨F, p, fs, ids, h1, h2, h3, h4, h5, h6⟩ := h
  subst h3
  have hb := h4.few hk
  refine (append_ok h1.dk (calm_nil h2) s (hv.only0 h1.only) (Go.Proofs.Ythekilgolelomaa.Sr.off0 hv h1.own) (by omega)).mono ?_
  rintro e w' ⟨rfl, ha⟩
  have ht := told_append (fs := fs) h2 hb s data hl
  obtain ⟨all', c', q1, q2⟩ := cw_told h1 h4 h5 h6 hk (E := (p.append fs s data).1.2) (p' := (p.append fs s data).2.1) (by first | exact ht | skip) ha
  exact ⟨_, _, all', c', rfl, q1, q2⟩
theorem cw_sync (h : CW w wr d K k all c) (hk : k ≤ 100) (s : Nm) : Calls Try.prog 11 #[cp d, sk s] wr fun e w' => ∃ E all' c', e = .returned (iv E) ∧ CT E all all' c c' ∧ CW w w' d K (k + 1) all' c' := by
  obtain ⟨F, p, fs, ids, h1, h2, h3, h4, h5, h6⟩ := h
  subst h3
  have hb := h4.few hk
  refine (syncD_ok h1.dk (calm_nil h2) s).mono ?_
  rintro e w' ⟨rfl, ha⟩
  obtain ⟨all', c', q1, q2⟩ := cw_told h1 h4 h5 h6 hk (told_sync (fs := fs) h2 hb s) ha
  exact ⟨_, all', c', rfl, q1, q2⟩
theorem cw_rename (h : CW w wr d K k all c) (hk : k ≤ 100) (s t : Nm) : Calls Try.prog 12 #[cp d, sk s, sk t] wr fun e w' => ∃ E all' c', e = .returned (iv E) ∧ CT E all all' c c' ∧ CW w w' d K (k + 1) all' c' := by
  obtain ⟨F, p, fs, ids, h1, h2, h3, h4, h5, h6⟩ := h
  subst h3
  have hb := h4.few hk
  refine (rename_ok h1.dk (calm_nil h2) (by omega) s t).mono ?_
  rintro e w' ⟨rfl, ha⟩
  obtain ⟨all', c', q1, q2⟩ := cw_told h1 h4 h5 h6 hk (told_rename h2 hb s t) ha
  exact ⟨_, all', c', rfl, q1, q2⟩
theorem cw_remove (h : CW w wr d K k all c) (hk : k ≤ 100) (s : Nm) : Calls Try.prog 13 #[cp d, sk s] wr fun e w' => ∃ E all' c', e = .returned (iv E) ∧ CT E all all' c c' ∧ CW w w' d K (k + 1) all' c' := by
  obtain ⟨F, p, fs, ids, h1, h2, h3, h4, h5, h6⟩ := h
  subst h3
  have hb := h4.few hk
  refine (remove_ok h1.dk (calm_nil h2) (by omega) s).mono ?_
  rintro e w' ⟨rfl, ha⟩
  obtain ⟨all', c', q1, q2⟩ := cw_told h1 h4 h5 h6 hk (told_remove h2 hb s) ha
  exact ⟨_, all', c', rfl, q1, q2⟩
theorem cw_sdir (h : CW w wr d K k all c) (hk : k ≤ 100) : Calls Try.prog 14 #[cp d] wr fun e w' => ∃ E all' c', e = .returned (iv E) ∧ CT E all all' c c' ∧ CW w w' d K (k + 1) all' c' := by
  obtain ⟨F, p, fs, ids, h1, h2, h3, h4, h5, h6⟩ := h
  subst h3
  have hb := h4.few hk
  refine (syncdir_ok h1.dk (calm_nil h2) (by omega)).mono ?_
  rintro e w' ⟨rfl, ha⟩
  obtain ⟨all', c', q1, q2⟩ := cw_told h1 h4 h5 h6 hk (told_sdir h2 hb) ha
  exact ⟨_, all', c', rfl, q1, q2⟩
theorem cw_read (h : CW w wr d K k all c) (s : Nm) (o n : Int) : Calls Try.prog 15 #[cp d, sk s, iv o, iv n] wr fun e w' => ∃ v E, e = .returned (.tuple #[v, iv E]) ∧ CW w w' d K k all c := by
  have hq := fun w' => h.quiet (w' := w')
  obtain ⟨F, p, fs, ids, h1, h2, h3, h4, h5, h6⟩ := h
  refine (read_ok h1.dk s o n).mono ?_
  rintro e w' ⟨v, rfl, _, ho, _⟩
  exact ⟨v, _, rfl, hq w' ho⟩
/-- What the tail asks. -/
theorem CN.tail (h : CN c k all) (hk : k ≤ 101) : c.all = all ∧ wrap64 (wrap64 (wrap64 (wrap64 (wrap64 (wrap64 (c.cr + c.ap) + c.sy) + c.cu) + c.rn) + c.rm) + c.ds) = all := by
  obtain ⟨h1, h2, h3, h4, h5⟩ := h
  refine ⟨h1, ?_⟩
  have e : ∀ x : Int, 0 ≤ x → x ≤ 101 → wrap64 x = x := fun x a b => wrap_d (by omega)
  rw [e (c.cr + c.ap) (by omega) (by omega), e (c.cr + c.ap + c.sy) (by omega) (by omega), e (c.cr + c.ap + c.sy + c.cu) (by omega) (by omega), e (c.cr + c.ap + c.sy + c.cu + c.rn) (by omega) (by omega), e (c.cr + c.ap + c.sy + c.cu + c.rn + c.rm) (by omega) (by omega), e _ (by omega) (by omega)]
  exact h2
end
end Go.Proofs.Ythekilgolelomaa
