/-
  A directory of names in order, and a map keyed by strings that holds it, whatever the order of its entries.
-/
import Derived.Test.YthekilgolelomaaSMap
set_option linter.unusedSimpArgs false
set_option linter.unusedVariables false
namespace Go.Fl
open Go.RowKit Go.Op

abbrev Nm := List UInt8
/-- Names and the numbers of their files, in the order of the names. -/
abbrev Dir := List (Nm × Nat)
def nl (x y : Nm) : Bool := bytesLess x y
theorem nl_irr : ∀ (x : Nm), nl x x = false
  | [] => rfl
  | a :: x => by
    have h : decide (a < a) = false := decide_eq_false (UInt8.lt_irrefl a)
    have ih := nl_irr x
    unfold nl at ih ⊢
    simp [bytesLess, ih]
theorem nl_tri8 (x y : UInt8) : x < y ∨ x = y ∨ y < x := by
  rcases Nat.lt_trichotomy x.toNat y.toNat with h | h | h
  · exact .inl (UInt8.lt_iff_toNat_lt.2 h)
  · exact .inr (.inl (UInt8.toNat_inj.1 h))
  · exact .inr (.inr (UInt8.lt_iff_toNat_lt.2 h))
theorem nl_tri : ∀ (a b : Nm), nl a b = true ∨ a = b ∨ nl b a = true
  | [], [] => .inr (.inl rfl)
  | [], _ :: _ => .inl rfl
  | _ :: _, [] => .inr (.inr rfl)
  | x :: a, y :: b => by
    unfold nl
    simp only [bytesLess, Bool.or_eq_true, decide_eq_true_eq, Bool.and_eq_true, beq_iff_eq]
    rcases nl_tri8 x y with h | h | h
    · exact .inl (.inl h)
    · subst h
      rcases nl_tri a b with h | h | h
      · exact .inl (.inr ⟨rfl, h⟩)
      · exact .inr (.inl (by rw [h]))
      · exact .inr (.inr (.inr ⟨rfl, h⟩))
    · exact .inr (.inr (.inl h))
theorem nl_trans : ∀ {a b c : Nm}, nl a b = true → nl b c = true → nl a c = true
  | _, [], [], _, h => by cases h
  | [], [], _ :: _, h, _ => by cases h
  | _ :: _, [], _ :: _, h, _ => by cases h
  | [], _ :: _, [], _, h => by cases h
  | _ :: _, _ :: _, [], _, h => by cases h
  | [], _ :: _, _ :: _, _, _ => rfl
  | x :: a, y :: b, z :: c, h1, h2 => by
    unfold nl at *
    simp only [bytesLess, Bool.or_eq_true, decide_eq_true_eq, Bool.and_eq_true, beq_iff_eq] at h1 h2 ⊢
    rcases h1 with h1 | ⟨rfl, h1⟩
    · rcases h2 with h2 | ⟨rfl, h2⟩
      · exact .inl (UInt8.lt_trans h1 h2)
      · exact .inl h1
    · rcases h2 with h2 | ⟨rfl, h2⟩
      · exact .inl h2
      · exact .inr ⟨rfl, nl_trans (a := a) (b := b) (c := c) h1 h2⟩
theorem nl_asym {a b : Nm} (h : nl a b = true) : nl b a = false := by
  cases hb : nl b a
  · rfl
  · have := nl_trans h hb
    rw [nl_irr] at this
    cases this

def Dir.get (d : Dir) (s : Nm) : Option Nat := (d.find? fun p => p.1 == s).map (·.2)
def Dir.has (d : Dir) (s : Nm) : Bool := d.any fun p => p.1 == s
def Dir.del (d : Dir) (s : Nm) : Dir := d.filter fun p => !(p.1 == s)
def Dir.put (d : Dir) (s : Nm) (f : Nat) : Dir := (d.del s).takeWhile (fun p => nl p.1 s) ++ (s, f) :: (d.del s).dropWhile (fun p => nl p.1 s)
/-- In order, each name once. -/
def Dir.Srt (d : Dir) : Prop := d.Pairwise fun p q => nl p.1 q.1 = true
namespace Dir
variable {d : Dir} {s t : Nm} {f : Nat}
theorem Srt.nod (h : Dir.Srt d) : (d.map (·.1)).Nodup := by
  rw [List.nodup_iff_pairwise_ne, List.pairwise_map]
  exact h.imp fun hpq e => by
    rw [e, nl_irr] at hpq
    cases hpq
theorem Srt.del (h : Dir.Srt d) (s : Nm) : Dir.Srt (d.del s) := List.Pairwise.filter _ h
theorem part (h : Dir.Srt d) (s : Nm) : (∀ p ∈ d.takeWhile (fun p => nl p.1 s), nl p.1 s = true) ∧ ∀ p ∈ d.dropWhile (fun p => nl p.1 s), nl p.1 s = false := by
  induction d with
  | nil => exact ⟨fun p hp => (by cases hp), fun p hp => (by cases hp)⟩
  | cons x d ih =>
    have ih := ih (List.pairwise_cons.1 h).2
    cases hx : nl x.1 s
    · rw [List.takeWhile_cons_of_neg (by simp [hx]), List.dropWhile_cons_of_neg (by simp [hx])]
      refine ⟨fun p hp => (by cases hp), fun p hp => ?_⟩
      rcases List.mem_cons.1 hp with rfl | hp
      · exact hx
      · cases hps : nl p.1 s
        · rfl
        · have := nl_trans ((List.pairwise_cons.1 h).1 p hp) hps
          rw [hx] at this
          cases this
    · rw [List.takeWhile_cons_of_pos (by simp [hx]), List.dropWhile_cons_of_pos (by simp [hx])]
      refine ⟨fun p hp => ?_, ih.2⟩
      rcases List.mem_cons.1 hp with rfl | hp
      · exact hx
      · exact ih.1 p hp
theorem put_perm (d : Dir) (s : Nm) (f : Nat) : (d.put s f).Perm ((s, f) :: d.del s) := by
  unfold Dir.put
  refine List.perm_middle.trans ?_
  rw [List.takeWhile_append_dropWhile]
theorem Srt.put (h : Dir.Srt d) (s : Nm) (f : Nat) : Dir.Srt (d.put s f) := by
  have hd := Srt.del h s
  have hp := part hd s
  have he := List.takeWhile_append_dropWhile (p := fun p : Nm × Nat => nl p.1 s) (l := d.del s)
  unfold Dir.put Dir.Srt
  have h0 := hd
  unfold Dir.Srt at h0
  rw [← he] at h0
  have h1 := List.pairwise_append.1 h0
  have hlt : ∀ p ∈ (d.del s).dropWhile (fun p => nl p.1 s), nl s p.1 = true := fun p hp2 => by
    have hn := hp.2 p hp2
    have hm : p ∈ d.del s := by rw [← he]; exact List.mem_append_right _ hp2
    have hne : p.1 ≠ s := by simpa using (List.mem_filter.1 hm).2
    rcases nl_tri p.1 s with h | h | h
    · rw [hn] at h; cases h
    · exact absurd h hne
    · exact h
  refine List.pairwise_append.2 ⟨h1.1, List.pairwise_cons.2 ⟨fun p hp2 => hlt p hp2, h1.2.1⟩, fun a ha b hb => ?_⟩
  rcases List.mem_cons.1 hb with rfl | hb
  · exact hp.1 a ha
  · exact h1.2.2 a ha b hb
theorem get_some (h : (d.map (·.1)).Nodup) (hm : (s, f) ∈ d) : d.get s = some f := by
  unfold Dir.get
  induction d with
  | nil => cases hm
  | cons p d ih =>
    rw [List.map_cons, List.nodup_cons] at h
    rcases List.mem_cons.1 hm with rfl | hm'
    · simp
    · have hne : (p.1 == s) = false := by
        rw [beq_eq_false_iff_ne]
        rintro rfl
        exact h.1 (List.mem_map.2 ⟨_, hm', rfl⟩)
      rw [List.find?_cons, hne]
      exact ih h.2 hm'
theorem get_none (h : ∀ p ∈ d, p.1 ≠ s) : d.get s = none := by
  unfold Dir.get
  rw [List.find?_eq_none.2 fun p hp => by simpa using h p hp]
  rfl
theorem get_mem (h : d.get s = some f) : (s, f) ∈ d := by
  unfold Dir.get at h
  cases hf : d.find? (fun p => p.1 == s) with
  | none => rw [hf] at h; cases h
  | some p =>
    rw [hf] at h
    have h1 := List.find?_some hf
    have h2 := List.mem_of_find?_eq_some hf
    have e1 : p.1 = s := by simpa using h1
    have e2 : p.2 = f := by simpa using h
    rw [← e1, ← e2]
    exact h2
theorem get_iff (h : (d.map (·.1)).Nodup) : d.get s = some f ↔ (s, f) ∈ d := ⟨get_mem, get_some h⟩
theorem mem_del {p : Nm × Nat} : p ∈ d.del s ↔ p ∈ d ∧ p.1 ≠ s := by
  unfold Dir.del
  rw [List.mem_filter]
  simp
theorem mem_put {p : Nm × Nat} : p ∈ d.put s f ↔ p = (s, f) ∨ (p ∈ d ∧ p.1 ≠ s) := by
  rw [(put_perm d s f).mem_iff, List.mem_cons, mem_del]
theorem get_del (h : Dir.Srt d) : (d.del s).get t = if t = s then none else d.get t := by
  split
  · rename_i e
    subst e
    exact get_none fun p hp => (mem_del.1 hp).2
  · rename_i e
    cases hg : d.get t with
    | none =>
      refine get_none fun p hp e2 => ?_
      subst e2
      have := get_some h.nod (mem_del.1 hp).1
      rw [hg] at this
      cases this
    | some f => exact get_some (h.del s).nod (mem_del.2 ⟨get_mem hg, e⟩)
theorem get_put (h : Dir.Srt d) : (d.put s f).get t = if t = s then some f else d.get t := by
  split
  · rename_i e
    subst e
    exact get_some (h.put t f).nod (mem_put.2 (.inl rfl))
  · rename_i e
    cases hg : d.get t with
    | none =>
      refine get_none fun p hp e2 => ?_
      subst e2
      rcases mem_put.1 hp with rfl | ⟨hp, _⟩
      · exact e rfl
      · have := get_some h.nod hp
        rw [hg] at this
        cases this
    | some f => exact get_some (h.put s _).nod (mem_put.2 (.inr ⟨get_mem hg, e⟩))
/-- Two in order that hold the same are one. -/
theorem ext_perm : ∀ {d e : Dir}, Dir.Srt d → Dir.Srt e → d.Perm e → d = e
  | [], e, _, _, hp => hp.nil_eq
  | x :: d, [], _, _, hp => absurd hp.symm.nil_eq (by simp)
  | x :: d, y :: e, h, k, hp => by
    have hxy : x = y := by
      have h1 : y ∈ x :: d := hp.mem_iff.2 (by simp)
      have h2 : x ∈ y :: e := hp.mem_iff.1 (by simp)
      rcases List.mem_cons.1 h1 with e1 | h1
      · exact e1.symm
      · rcases List.mem_cons.1 h2 with e2 | h2
        · exact e2
        · have a := (List.pairwise_cons.1 h).1 y h1
          have b := (List.pairwise_cons.1 k).1 x h2
          rw [nl_asym a] at b
          cases b
    subst hxy
    rw [ext_perm (List.pairwise_cons.1 h).2 (List.pairwise_cons.1 k).2 ((List.perm_cons x).1 hp)]
end Dir

/-! ### In memory -/
abbrev fp (g : Nat) : Value := .pointer (some ⟨g, 0, none⟩)
def optP : Option Nat → Value
  | none => .pointer none
  | some g => fp g
def dirV (d : Dir) : List (Nm × Value) := d.map fun p => (p.1, fp p.2)
/-- Block b is a map that holds the directory. -/
def DMap (w : World) (b : Nat) (d : Dir) : Prop := (∃ m, SMap w b m ∧ m.Perm (dirV d)) ∧ Dir.Srt d
section
variable {P : Program} {w w' : World} {b : Nat} {d : Dir} {s : Nm} {f : Nat}
theorem DMap.keep (h : DMap w b d) (hb : w'.heap[b]? = w.heap[b]?) : DMap w' b d := ⟨h.1.imp fun m hm => ⟨hm.1.keep hb, hm.2⟩, h.2⟩
theorem DMap.lt (h : DMap w b d) : b < w.heap.size := by
  obtain ⟨⟨m, hm, _⟩, _⟩ := h
  exact hm.lt
theorem DMap.only {S : List Nat} (h : DMap w b d) (ho : Only S w w') (hS : b ∉ S) : DMap w' b d := h.keep (ho.block b h.lt hS)
theorem DMap.not_cells (h : DMap w b d) {g : Nat} {t : TypeId} {cs : Array Value} (hg : Blk w g t cs) : b ≠ g := by
  obtain ⟨⟨m, hm, _⟩, _⟩ := h
  exact hm.not_cells hg
theorem DMap.new (w : World) : DMap (w.alloc (.map #[] 0)) w.heap.size [] := ⟨⟨[], SMap.new w, List.Perm.refl _⟩, List.Pairwise.nil⟩
theorem perm_get {m : List (Nm × Value)} (hn : (m.map (·.1)).Nodup) (hp : m.Perm (dirV d)) (hs : Dir.Srt d) : sGet m s (.pointer none) = optP (d.get s) ∧ sHas m s = (d.get s).isSome := by
  cases hg : d.get s with
  | none =>
    refine sGet_not fun p hp2 e => ?_
    obtain ⟨q, hq, rfl⟩ := List.mem_map.1 (hp.mem_iff.1 hp2)
    have : d.get s = some q.2 := Dir.get_some hs.nod (by rw [← e]; exact hq)
    rw [hg] at this
    cases this
  | some f => exact sGet_mem hn (hp.mem_iff.2 (List.mem_map.2 ⟨_, Dir.get_mem hg, rfl⟩))
theorem dirV_del (d : Dir) (s : Nm) : dirV (d.del s) = (dirV d).filter fun p => !(p.1 == s) := by
  unfold dirV Dir.del
  rw [List.filter_map]
  rfl
/-- 'm[s]' -/
theorem DMap.lookup {t kt e : TypeId} (h : DMap w b d) (ht : P.underlying t = some (.map kt e)) (hk : P.underlying kt = some .string) (hz : (P.info? e).bind (·.zero) = some (.pointer none)) (s : Nm) :
    (Instr.lookup t (.map (some b)) (sk s) false).run P w = .ok (optP (d.get s)) w := by
  obtain ⟨⟨m, hm, hp⟩, hs⟩ := h
  rw [← (perm_get hm.nod hp hs).1]
  exact run_slookup hm ht hk hz
/-- 'm[s] = f' -/
theorem DMap.update {t kt e : TypeId} (h : DMap w b d) (ht : P.underlying t = some (.map kt e)) (hk : P.underlying kt = some .string) (s : Nm) (f : Nat) :
    ∃ w', (Instr.mapUpdate t (.map (some b)) (sk s) (fp f)).run P w = .ok () w' ∧ DMap w' b (d.put s f) ∧ Only [b] w w' ∧ w'.heap.size = w.heap.size := by
  obtain ⟨⟨m, hm, hp⟩, hs⟩ := h
  obtain ⟨w', h1, h2, h3, h4⟩ := run_smapUpdate (P := P) (x := s) (v := fp f) hm ht hk
  refine ⟨w', h1, ⟨⟨_, h2, ?_⟩, hs.put s f⟩, h3, h4⟩
  refine (sPut_perm hm.nod).trans ?_
  refine List.Perm.trans ?_ ((Dir.put_perm d s f).map fun p => (p.1, fp p.2)).symm
  rw [List.map_cons]
  refine (List.perm_cons _).2 ?_
  show List.Perm _ (dirV (d.del s))
  rw [dirV_del]
  exact hp.filter _
/-- 'delete(m, s)' -/
theorem DMap.delete {t kt e ty : TypeId} (h : DMap w b d) (ht : P.underlying t = some (.map kt e)) (hk : P.underlying kt = some .string) (s : Nm) :
    ∃ w', (Builtin.delete_ #[t, kt] ty #[.map (some b), sk s]).run P w = .ok (.tuple #[]) w' ∧ DMap w' b (d.del s) ∧ Only [b] w w' ∧ w'.heap.size = w.heap.size := by
  obtain ⟨⟨m, hm, hp⟩, hs⟩ := h
  obtain ⟨w', h1, h2, h3, h4⟩ := run_sdelete (P := P) (ty := ty) (x := s) hm ht hk
  refine ⟨w', h1, ⟨⟨_, h2, ?_⟩, hs.del s⟩, h3, h4⟩
  rw [sDel_filter hm.nod, dirV_del]
  exact hp.filter _
/-- 'len(m)' -/
theorem DMap.len {t kt e ty : TypeId} (h : DMap w b d) (ht : P.underlying t = some (.map kt e)) : (Builtin.len_ #[t] ty #[.map (some b)]).run P w = .ok (.int .i64 d.length) w := by
  obtain ⟨⟨m, hm, hp⟩, hs⟩ := h
  have hl : m.length = d.length := by have := hp.length_eq; simpa [dirV] using this
  rw [← hl]
  exact run_slen hm ht

/-! ### Ranging over it -/
def left (es : Array MapEntry) (seen : Array Nat) : List (Value × Value) := (leftOf es seen).toList.map fun e => (e.key, e.val)
theorem perm_one : ∀ {L : List MapEntry} {e : MapEntry}, (L.map (·.born)).Nodup → e ∈ L → L.Perm (e :: L.filter fun x => !(x.born == e.born))
  | [], _, _, h => by cases h
  | x :: L, e, hn, h => by
    rw [List.map_cons, List.nodup_cons] at hn
    rcases List.mem_cons.1 h with rfl | h'
    · refine (List.perm_cons _).2 ?_
      rw [List.filter_cons, beq_self_eq_true]
      simp only [Bool.not_true, Bool.false_eq_true, if_false]
      rw [List.filter_eq_self.2 fun y hy => ?_]
      have : y.born ≠ e.born := fun e2 => hn.1 (List.mem_map.2 ⟨y, hy, e2⟩)
      simpa using this
    · have hne : (x.born == e.born) = false := by
        rw [beq_eq_false_iff_ne]
        exact fun e2 => hn.1 (List.mem_map.2 ⟨e, h', e2.symm⟩)
      rw [List.filter_cons, hne]
      simp only [Bool.not_false, if_true]
      exact ((List.perm_cons x).2 (perm_one hn.2 h')).trans (List.Perm.swap _ _ _)
theorem left_push {es : Array MapEntry} {seen : Array Nat} {e : MapEntry} (hn : (es.toList.map (·.born)).Nodup) (he : e ∈ (leftOf es seen).toList) : (left es seen).Perm ((e.key, e.val) :: left es (seen.push e.born)) := by
  have h1 : (leftOf es seen).toList = es.toList.filter fun x => !seen.contains x.born := by unfold leftOf; simp
  have h2 : (leftOf es (seen.push e.born)).toList = (es.toList.filter fun x => !seen.contains x.born).filter fun x => !(x.born == e.born) := by
    unfold leftOf
    rw [List.filter_filter]
    simp only [Array.toList_filter]
    refine List.filter_congr fun x _ => ?_
    rw [Array.contains_push]
    cases seen.contains x.born <;> cases x.born == e.born <;> rfl
  unfold left
  rw [h2, h1]
  rw [h1] at he
  have := perm_one (hn.sublist (List.filter_sublist.map _)) he
  exact this.map _
/-- Block it ranges over the directory in block b: l is what is left. -/
def RIter (w : World) (it b : Nat) (d : Dir) (l : List (Nm × Nat)) : Prop :=
  ∃ es clock m seen, w.heap[b]? = some (.map es clock) ∧ SEs es clock m ∧ m.Perm (dirV d) ∧ Dir.Srt d ∧ w.heap[it]? = some (.mapIter (some b) clock seen clock) ∧ (left es seen).Perm (l.map fun p => (sk p.1, fp p.2))
theorem RIter.dmap {it : Nat} {l : List (Nm × Nat)} (h : RIter w it b d l) : DMap w b d := by
  obtain ⟨es, clock, m, seen, h1, h2, h3, h4, _⟩ := h
  exact ⟨⟨m, ⟨es, clock, h1, h2⟩, h3⟩, h4⟩
theorem RIter.keep {it : Nat} {l : List (Nm × Nat)} (h : RIter w it b d l) (hb : w'.heap[b]? = w.heap[b]?) (hi : w'.heap[it]? = w.heap[it]?) : RIter w' it b d l := by
  obtain ⟨es, clock, m, seen, h1, h2, h3, h4, h5, h6⟩ := h
  exact ⟨es, clock, m, seen, hb.trans h1, h2, h3, h4, hi.trans h5, h6⟩
theorem RIter.lt {it : Nat} {l : List (Nm × Nat)} (h : RIter w it b d l) : b < w.heap.size ∧ it < w.heap.size := by
  obtain ⟨es, clock, m, seen, h1, h2, h3, h4, h5, h6⟩ := h
  exact ⟨(Array.getElem?_eq_some_iff.1 h1).1, (Array.getElem?_eq_some_iff.1 h5).1⟩
theorem RIter.only {it : Nat} {l : List (Nm × Nat)} {S : List Nat} (h : RIter w it b d l) (ho : Only S w w') (hb : b ∉ S) (hi : it ∉ S) : RIter w' it b d l := h.keep (ho.block b h.lt.1 hb) (ho.block it h.lt.2 hi)
theorem sk_inj {x y : Nm} (h : sk x = sk y) : x = y := by
  injection h with h
  injection h with h
  injection h
theorem run_range_dmap {t kt e : TypeId} (h : DMap w b d) (ht : P.underlying t = some (.map kt e)) :
    ∃ w', (Instr.range t (.map (some b))).run P w = .ok (.pointer (some ⟨w.heap.size, 0, none⟩)) w' ∧ RIter w' w.heap.size b d d ∧ Only [] w w' ∧ w'.heap.size = w.heap.size + 1 := by
  obtain ⟨⟨m, ⟨es, clock, hb, he⟩, hp⟩, hs⟩ := h
  have hlt : b < w.heap.size := (Array.getElem?_eq_some_iff.1 hb).1
  refine ⟨w.alloc (.mapIter (some b) clock #[] clock), ?_, ⟨es, clock, m, #[], (Below.heap_alloc w _ b hlt).trans hb, he, hp, hs, heap_alloc_new w _, ?_⟩, (Only.refl _ _).alloc _, by simp⟩
  · unfold Instr.range
    simp only [Sem.run_bind, run_underlying ht, Result.andThen_ok, run_getObj_smap hb, Sem.run_pure]
    rfl
  · have e0 : leftOf es #[] = es := by
      unfold leftOf
      simp
    unfold left
    rw [e0]
    have h1 := he.kv
    unfold kvs skv at h1
    rw [h1]
    have h2 := hp.map fun p : Nm × Value => (sk p.1, p.2)
    unfold dirV at h2
    rw [List.map_map] at h2
    exact h2
theorem run_next_dmap {it : Nat} {l : List (Nm × Nat)} (h : RIter w it b d l) (ty : TypeId) :
    (l = [] ∧ (Instr.next (.pointer (some ⟨it, 0, none⟩)) false ty).run P w = .ok (.tuple #[.bool false]) w) ∨
    ∃ s f l' w', l.Perm ((s, f) :: l') ∧ (Instr.next (.pointer (some ⟨it, 0, none⟩)) false ty).run P w = .ok (.tuple #[.bool true, sk s, fp f]) w' ∧ RIter w' it b d l' ∧ Only [it] w w' ∧ w'.heap.size = w.heap.size ∧
      (Instr.entry (.pointer (some ⟨it, 0, none⟩))).run P w' = .ok (.tuple #[sk s, fp f]) w' := by
  obtain ⟨es, clock, m, seen, hb, he, hp, hs, hi, hl⟩ := h
  have hne : it ≠ b := by
    rintro rfl
    rw [hb] at hi
    cases hi
  rcases run_next_at (P := P) w ty it b clock clock seen es clock hi hb he.lt (Nat.le_refl _) with ⟨h0, hr⟩ | ⟨e, hem, w1, hw1, hr⟩
  · left
    refine ⟨?_, hr⟩
    have h1 := hl.length_eq
    have h2 : (Go.Fl.left es seen).length = 0 := by unfold Go.Fl.left; simp [h0]
    rw [h2] at h1
    exact List.length_eq_zero_iff.1 (by simpa using h1.symm)
  · right
    have hm1 : (e.key, e.val) ∈ Go.Fl.left es seen := List.mem_map.2 ⟨e, hem, rfl⟩
    obtain ⟨p, hpl, hpe⟩ := List.mem_map.1 (hl.mem_iff.1 hm1)
    obtain ⟨l1, l2, hll⟩ := List.append_of_mem hpl
    have hlp : l.Perm (p :: (l1 ++ l2)) := by rw [hll]; exact List.perm_middle
    have hk : e.key = sk p.1 := by injection hpe with h1 h2; exact h1.symm
    have hv : e.val = fp p.2 := by injection hpe with h1 h2; exact h2.symm
    have hw1h : w1.heap = w.heap := by rcases hw1 with rfl | rfl <;> rfl
    have hon : Only [it] w (Go.ChangeMaps.setBlock w1 it (.mapIter (some b) clock (seen.push e.born) clock)) := by
      rcases hw1 with rfl | rfl
      · exact ⟨rfl, rfl, rfl, by simp [Go.ChangeMaps.setBlock], fun k hk hs => by
          have : it ≠ k := fun e => hs (by simp [e])
          simp [Go.ChangeMaps.setBlock, Array.getElem?_setIfInBounds_ne this]⟩
      · exact ⟨rfl, rfl, rfl, by simp [Go.ChangeMaps.setBlock], fun k hk hs => by
          have : it ≠ k := fun e => hs (by simp [e])
          simp [Go.ChangeMaps.setBlock, Array.getElem?_setIfInBounds_ne this]
          rfl⟩
    have hitl : it < w.heap.size := (Array.getElem?_eq_some_iff.1 hi).1
    have hi2 : (Go.ChangeMaps.setBlock w1 it (.mapIter (some b) clock (seen.push e.born) clock)).heap[it]? = some (.mapIter (some b) clock (seen.push e.born) clock) := by
      simp [Go.ChangeMaps.setBlock, hw1h, hitl]
    have hb2 : (Go.ChangeMaps.setBlock w1 it (.mapIter (some b) clock (seen.push e.born) clock)).heap[b]? = some (.map es clock) := by
      simp [Go.ChangeMaps.setBlock, hw1h, Array.getElem?_setIfInBounds_ne hne, hb]
    have hes : e ∈ es.toList := by
      unfold leftOf at hem
      simp at hem
      simpa using hem.1
    have hnd : (es.toList.map (·.born)).Nodup := by
      rw [List.nodup_iff_pairwise_ne]
      exact he.up.imp fun h => Nat.ne_of_lt h
    rw [hk, hv] at hr
    refine ⟨p.1, p.2, l1 ++ l2, _, hlp, hr, ⟨es, clock, m, _, hb2, he, hp, hs, hi2, ?_⟩, hon, by simp [Go.ChangeMaps.setBlock, hw1h], ?_⟩
    · have h1 := (left_push hnd hem).symm.trans (hl.trans (hlp.map fun p => (sk p.1, fp p.2)))
      rw [List.map_cons, hk, hv] at h1
      exact (List.perm_cons _).1 h1
    · have := run_entry_at (P := P) _ it b clock seen es clock e hi2 hb2 hes hnd
      rw [hk, hv] at this
      exact this
end

/-! ### For the walk -/
section
variable {P : Program} {w : World} {ops : Array Oper} {rest : List Oper} {o : Oper} {a : Act} {Q : Exit → Act → World → Prop} {b : Nat} {d : Dir}
theorem wpList_dput (hg : o.guard = none) (mo x v : Operand) (t : TypeId) (hop : o.op = Op.mapUpdate t mo x v) (kt e : TypeId) (ht : P.underlying t = some (.map kt e)) (hk : P.underlying kt = some .string)
    (hm : a.eval mo = .map (some b)) (h : DMap w b d) {s : Nm} (hx : a.eval x = sk s) {f : Nat} (hv : a.eval v = fp f)
    (hK : ∀ w', DMap w' b (d.put s f) → Only [b] w w' → w'.heap.size = w.heap.size → wpList P ops Q rest (a.put o.dst undef) w') : wpList P ops Q (o :: rest) a w := by
  refine wpList_plain hg fun K' hK' => ?_
  obtain ⟨w', hrun, r1, r2, r3⟩ := DMap.update (P := P) h ht hk s f
  unfold Oper.wp
  simp [execOp, hop, hm, hx, hv, hrun, Result.andThen]
  exact hK' _ _ (hK w' r1 r2 r3)
theorem wpList_ddel (hg : o.guard = none) (mo x : Operand) (t kt : TypeId) (hop : o.op = Op.call { callee := Callee.builtin Builtin.delete, args := #[mo, x], argTypes := #[t, kt] }) (e : TypeId) (ht : P.underlying t = some (.map kt e)) (hk : P.underlying kt = some .string)
    (hm : a.eval mo = .map (some b)) (h : DMap w b d) {s : Nm} (hx : a.eval x = sk s)
    (hK : ∀ w', DMap w' b (d.del s) → Only [b] w w' → w'.heap.size = w.heap.size → wpList P ops Q rest (a.put o.dst (.tuple #[])) w') : wpList P ops Q (o :: rest) a w := by
  refine wpList_plain hg fun K' hK' => ?_
  obtain ⟨w', hrun, r1, r2, r3⟩ := DMap.delete (P := P) (ty := o.type) h ht hk s
  unfold Oper.wp
  simp [execOp, hop, resolve, invoke, builtin, hm, hx, hrun, Result.andThen]
  exact hK' _ _ (hK w' r1 r2 r3)
theorem wpList_drange (hg : o.guard = none) (m : Operand) (t : TypeId) (hop : o.op = Op.range t m) (kt e : TypeId) (ht : P.underlying t = some (.map kt e)) (hm : a.eval m = .map (some b)) (h : DMap w b d)
    (hK : ∀ w', RIter w' w.heap.size b d d → Only [] w w' → w'.heap.size = w.heap.size + 1 → wpList P ops Q rest (a.put o.dst (.pointer (some ⟨w.heap.size, 0, none⟩))) w') : wpList P ops Q (o :: rest) a w := by
  refine wpList_plain hg fun K' hK' => ?_
  obtain ⟨w', hrun, r1, r2, r3⟩ := run_range_dmap (P := P) h ht
  unfold Oper.wp
  simp [execOp, hop, hm, hrun, Result.andThen]
  exact hK' _ _ (hK w' r1 r2 r3)
theorem wpList_dnext (hg : o.guard = none) (it : Operand) (hop : o.op = Op.next it false) {r : Nat} {l : List (Nm × Nat)} (hit : a.eval it = .pointer (some ⟨r, 0, none⟩)) (h : RIter w r b d l)
    (hDone : l = [] → wpList P ops Q rest (a.put o.dst (.tuple #[.bool false])) w)
    (hMore : ∀ s f l' w', l.Perm ((s, f) :: l') → RIter w' r b d l' → Only [r] w w' → w'.heap.size = w.heap.size → (Instr.entry (.pointer (some ⟨r, 0, none⟩))).run P w' = .ok (.tuple #[sk s, fp f]) w' →
      wpList P ops Q rest (a.put o.dst (.tuple #[.bool true, sk s, fp f])) w') : wpList P ops Q (o :: rest) a w := by
  refine wpList_plain hg fun K' hK' => ?_
  unfold Oper.wp
  rcases run_next_dmap (P := P) h o.type with ⟨h0, hrun⟩ | ⟨s, f, l', w', hp, hrun, r1, r2, r3, r4⟩
  · simp [execOp, hop, hit, hrun, Result.andThen]
    exact hK' _ _ (hDone h0)
  · simp [execOp, hop, hit, hrun, Result.andThen]
    exact hK' _ _ (hMore s f l' w' hp r1 r2 r3 r4)
end
end Go.Fl
