/-
  Words for memory: a block known whole; what a call may have turned; a slice that a structure owns, wherever it begins in its block; append onto it.
-/
import Derived.WalkKit
import Derived.Deep.Draws
import Derived.Deep.AppendLies
import Derived.Lib.Hide
set_option linter.unusedSimpArgs false
set_option linter.unusedVariables false
namespace Go.Fl
open Go.RowKit

/-! ### A block known whole -/
def Blk (w : World) (g : Nat) (t : TypeId) (cs : Array Value) : Prop := w.heap[g]? = some (.cells cs t (0, 0))
section
variable {w w' : World} {g : Nat} {t : TypeId} {cs : Array Value}
theorem Blk.lt (h : Blk w g t cs) : g < w.heap.size := (Array.getElem?_eq_some_iff.1 h).1
theorem Blk.cell (h : Blk w g t cs) (i : Nat) : w.cell? ⟨g, i, none⟩ = cs[i]? := cell_of_row w g i cs t (0, 0) h
theorem Blk.frozen (h : Blk w g t cs) (i : Nat) : w.frozen? ⟨g, i, none⟩ = false := by
  unfold Blk at h
  simp [World.frozen?, h]
theorem Blk.facts (h : Blk w g t cs) : (∀ i, w.cell? ⟨g, i, none⟩ = cs[i]?) ∧ (∀ i, w.frozen? ⟨g, i, none⟩ = false) ∧ g < w.heap.size := ⟨h.cell, h.frozen, h.lt⟩
theorem Blk.new (w : World) (t : TypeId) (cs : Array Value) : Blk (w.alloc (.cells cs t)) w.heap.size t cs := heap_alloc_new w _
theorem Blk.drew (h : Blk w g t cs) : Blk w.drew g t cs := h
theorem Blk.drewN (h : Blk w g t cs) (n : Nat) : Blk (w.drewN n) g t cs := h
theorem Blk.alloc (h : Blk w g t cs) (o : Obj) : Blk (w.alloc o) g t cs := (Below.heap_alloc w o g h.lt).trans h
theorem Blk.set_ (h : Blk w g t cs) (i : Nat) (u : Value) : Blk (w.setCell ⟨g, i, none⟩ u) g t (cs.setIfInBounds i u) := by
  unfold Blk at h ⊢
  simp [World.setCell, Array.getElem?_modify, h]
def SetEq (a b : Array Value) : Prop := a = b
theorem SetEq.rfl' {a : Array Value} : SetEq a a := Eq.refl a
theorem Blk.set' {cs' : Array Value} {i : Nat} {u : Value} (h : Blk w g t cs) (hc : SetEq (cs.setIfInBounds i u) cs') : Blk (w.setCell ⟨g, i, none⟩ u) g t cs' := (show cs.setIfInBounds i u = cs' from hc) ▸ h.set_ i u
theorem Blk.far (h : Blk w g t cs) {p : Addr} (hp : g ≠ p.block) (u : Value) : Blk (w.setCell p u) g t cs := (Below.heap_setCell w p u g hp).trans h
theorem Blk.ne_ {g' : Nat} {t' : TypeId} {cs' : Array Value} (h : Blk w g t cs) (h' : Blk w g' t' cs') (hne : t ≠ t') : g ≠ g' := by
  rintro rfl
  unfold Blk at h h'
  rw [h] at h'
  injection h' with h'
  injection h' with _ ht
  exact hne ht
end

theorem Blk.is_ {w : World} {g : Nat} {t : TypeId} {cs cs' : Array Value} (h : Blk w g t cs) (hc : SetEq cs cs') : Blk w g t cs' := (show cs = cs' from hc) ▸ h

/-! ### What a call may have turned -/
structure Only (S : List Nat) (w w' : World) : Prop where
  os : w'.os = w.os
  tape : w'.tape = w.tape
  output : w'.output = w.output
  size : w.heap.size ≤ w'.heap.size
  block : ∀ k, k < w.heap.size → k ∉ S → w'.heap[k]? = w.heap[k]?
section
variable {S T : List Nat} {a b c w w' : World}
theorem Only.refl (S : List Nat) (w : World) : Only S w w := ⟨rfl, rfl, rfl, Nat.le_refl _, fun _ _ _ => rfl⟩
theorem Only.trans (h : Only S a b) (k : Only S b c) : Only S a c :=
  ⟨k.os.trans h.os, k.tape.trans h.tape, k.output.trans h.output, Nat.le_trans h.size k.size, fun i hi hs => (k.block i (Nat.lt_of_lt_of_le hi h.size) hs).trans (h.block i hi hs)⟩
/-- The second step may have turned what the first one made besides. -/
theorem Only.trans' (h : Only S a b) (k : Only T b c) (hT : ∀ i ∈ T, i ∈ S ∨ a.heap.size ≤ i) : Only S a c :=
  ⟨k.os.trans h.os, k.tape.trans h.tape, k.output.trans h.output, Nat.le_trans h.size k.size, fun i hi hs => (k.block i (Nat.lt_of_lt_of_le hi h.size) (fun ht => by
    rcases hT i ht with h1 | h1
    · exact hs h1
    · omega)).trans (h.block i hi hs)⟩
theorem Only.mono (h : Only S a b) (hS : ∀ i ∈ S, i ∈ T) : Only T a b := ⟨h.os, h.tape, h.output, h.size, fun i hi hs => h.block i hi fun hm => hs (hS i hm)⟩
theorem Only.mono' (h : Only S a b) (hS : ∀ i ∈ S, i ∈ T ∨ a.heap.size ≤ i) : Only T a b := (Only.refl T a).trans' h hS
theorem Only.drew (h : Only S a w) : Only S a w.drew := ⟨h.os, h.tape, h.output, h.size, h.block⟩
theorem Only.drewN (h : Only S a w) (n : Nat) : Only S a (w.drewN n) := ⟨h.os, h.tape, h.output, h.size, h.block⟩
theorem Only.alloc (h : Only S a w) (o : Obj) : Only S a (w.alloc o) :=
  ⟨h.os, h.tape, h.output, Nat.le_trans h.size (by simp), fun i hi hs => (Below.heap_alloc w o i (Nat.lt_of_lt_of_le hi h.size)).trans (h.block i hi hs)⟩
theorem Only.setCell (h : Only S a w) {p : Addr} (hp : p.block ∈ S ∨ a.heap.size ≤ p.block) (u : Value) : Only S a (w.setCell p u) :=
  ⟨h.os, h.tape, h.output, by simpa [World.setCell] using h.size, fun i hi hs => (Below.heap_setCell w p u i (by
    rintro rfl
    rcases hp with hp | hp
    · exact hs hp
    · omega)).trans (h.block i hi hs)⟩
theorem Only.grown {row : Option Nat} (h : Only S a w) (hg : w.grownBy w' row) (hr : ∀ k, row = some k → k ∈ S ∨ a.heap.size ≤ k) : Only S a w' :=
  ⟨hg.os.trans h.os, hg.tape.trans h.tape, hg.output.trans h.output, Nat.le_trans h.size hg.size, fun i hi hs => (hg.block i (Nat.lt_of_lt_of_le hi h.size) (fun e => by
    rcases hr i e.symm with h1 | h1
    · exact hs h1
    · omega)).trans (h.block i hi hs)⟩
theorem Only.below (h : Only [] a w) : Below a.heap.size a w := ⟨h.os, h.tape, h.output, h.size, fun i hi => h.block i hi (by simp)⟩
theorem Only.of_below (h : Below a.heap.size a w) (S : List Nat) : Only S a w := ⟨h.os, h.tape, h.output, h.size, fun i hi _ => h.block i hi⟩
theorem Only.cell (h : Only S a w) {p : Addr} (hp : p.block < a.heap.size) (hs : p.block ∉ S) : w.cell? p = a.cell? p := World.cell?_of_block (w := a) (h.block p.block hp hs)
theorem Only.frozen (h : Only S a w) {p : Addr} (hp : p.block < a.heap.size) (hs : p.block ∉ S) : w.frozen? p = a.frozen? p := World.frozen?_of_block (w := a) (h.block p.block hp hs)
theorem Blk.only {g : Nat} {t : TypeId} {cs : Array Value} (hb : Blk a g t cs) (h : Only S a w) (hs : g ∉ S) : Blk w g t cs := (h.block g hb.lt hs).trans hb
theorem Only.map {b : Nat} {es : Array MapEntry} {n : Nat} (h : Only S a w) (hb : a.heap[b]? = some (.map es n)) (hs : b ∉ S) : w.heap[b]? = some (.map es n) := (h.block b (Array.getElem?_eq_some_iff.1 hb).1 hs).trans hb
end

/-! ### A slice that is owned -/
/-- The slice value v, of n elements of 'size' cells each, lies in a block of element type e of which nothing is frozen, and reads xs. -/
def Sl (w : World) (e : TypeId) (size : Nat) (v : Value) (n : Nat) (xs : List Value) : Prop :=
  xs.length = n * size ∧
  ((v = .slice none 0 0 ∧ n = 0) ∨
   ∃ g off cap cur, v = .slice (some ⟨g, off, none⟩) n cap ∧ w.heap[g]? = some (.cells cur e (0, 0)) ∧ n ≤ cap ∧ cap ≤ maxLen ∧ off + cap * size ≤ cur.size ∧ (cur.toList.drop off).take (n * size) = xs)
section
variable {P : Program} {w w' : World} {e : TypeId} {size : Nat} {v : Value} {n : Nat} {xs : List Value}
theorem Sl.nil (w : World) (e : TypeId) (size : Nat) : Sl w e size (.slice none 0 0) 0 [] := ⟨by simp, .inl ⟨rfl, rfl⟩⟩
theorem Sl.of_own {base : Nat} (h : w.ownsRow base e size v n xs) : Sl w e size v n xs := by
  refine ⟨h.1, ?_⟩
  rcases h.2 with h2 | ⟨g, cap, cur, rfl, _, hg, hn, hm, hs, ht⟩
  · exact .inl h2
  · exact .inr ⟨g, 0, cap, cur, rfl, hg, hn, hm, by omega, by simpa using ht⟩
theorem Sl.keep (h : Sl w e size v n xs) (hk : ∀ g, v.ownBlock = some g → w'.heap[g]? = w.heap[g]?) : Sl w' e size v n xs := by
  refine ⟨h.1, ?_⟩
  rcases h.2 with h2 | ⟨g, off, cap, cur, rfl, hg, r⟩
  · exact .inl h2
  · exact .inr ⟨g, off, cap, cur, rfl, (hk g rfl).trans hg, r⟩
theorem Sl.lt (h : Sl w e size v n xs) : ∀ g, v.ownBlock = some g → g < w.heap.size := by
  intro g hg
  rcases h.2 with ⟨rfl, _⟩ | ⟨g', off, cap, cur, rfl, hh, _⟩
  · simp [Value.ownBlock] at hg
  · simp [Value.ownBlock] at hg; subst hg; exact (Array.getElem?_eq_some_iff.1 hh).1
theorem Sl.only {S : List Nat} (h : Sl w e size v n xs) (ho : Only S w w') (hS : ∀ g, v.ownBlock = some g → g ∉ S) : Sl w' e size v n xs := h.keep fun g hg => ho.block g (h.lt g hg) (hS g hg)
theorem Sl.drew (h : Sl w e size v n xs) : Sl w.drew e size v n xs := h
theorem Sl.drewN (h : Sl w e size v n xs) (k : Nat) : Sl (w.drewN k) e size v n xs := h
theorem Sl.alloc (h : Sl w e size v n xs) (o : Obj) : Sl (w.alloc o) e size v n xs := h.keep fun g hg => Below.heap_alloc w o g (h.lt g hg)
theorem Sl.far (h : Sl w e size v n xs) {p : Addr} (hp : v.ownBlock ≠ some p.block) (u : Value) : Sl (w.setCell p u) e size v n xs := h.keep fun g hg => Below.heap_setCell w p u g (fun he => hp (by rw [hg, he]))
/-- The value of a slice that is not empty. -/
theorem Sl.form (h : Sl w e size v n xs) (hn : 0 < n) : ∃ g off cap, v = .slice (some ⟨g, off, none⟩) n cap ∧ g < w.heap.size ∧ n ≤ cap ∧ cap ≤ maxLen ∧
    (∀ j, j < n * size → w.cell? ⟨g, off + j, none⟩ = xs[j]?) ∧ (∀ j, w.frozen? ⟨g, j, none⟩ = false) := by
  rcases h.2 with ⟨_, rfl⟩ | ⟨g, off, cap, cur, rfl, hh, hc, hm, hs, ht⟩
  · omega
  · refine ⟨g, off, cap, rfl, (Array.getElem?_eq_some_iff.1 hh).1, hc, hm, fun j hj => ?_, fun j => Blk.frozen (t := e) (cs := cur) hh j⟩
    rw [cell_of_row w g _ cur e (0, 0) hh, ← ht, List.getElem?_take, if_pos hj, List.getElem?_drop, Array.getElem?_toList]
/-- Whatever its length. -/
theorem Sl.shape (h : Sl w e size v n xs) : ∃ a cap, v = .slice a n cap ∧ n ≤ cap ∧ (a = none → n = 0) := by
  rcases h.2 with ⟨rfl, rfl⟩ | ⟨g, off, cap, cur, rfl, hh, hc, hm, hs, ht⟩
  · exact ⟨none, 0, rfl, Nat.le_refl _, fun _ => rfl⟩
  · exact ⟨_, cap, rfl, hc, fun h => by cases h⟩
theorem Sl.len (h : Sl w e size v n xs) : xs.length = n * size := h.1

/-- What is cut off in front. -/
theorem Sl.cut {a : Option Addr} {cap k : Nat} (h : Sl w e size (.slice a n cap) n xs) (hk : k ≤ n) :
    Sl w e size (.slice (if cap = k then a else a.map (·.add (k * size))) (n - k) (cap - k)) (n - k) (xs.drop (k * size)) := by
  refine ⟨by rw [List.length_drop, h.1, Nat.sub_mul], ?_⟩
  rcases h.2 with ⟨hv, rfl⟩ | ⟨g, off, cap', cur, hv, hh, hc, hm, hs, ht⟩
  · injection hv with h1 _ h3
    subst h1; subst h3
    obtain rfl : k = 0 := by omega
    exact .inl ⟨by simp, by omega⟩
  · injection hv with h1 _ h3
    subst h1; subst h3
    by_cases hck : cap = k
    · rw [if_pos hck]
      exact .inr ⟨g, off, cap - k, cur, rfl, hh, by omega, by omega, by have := Nat.mul_le_mul_right size (show cap - k ≤ cap by omega); omega, by
        have : n - k = 0 := by omega
        rw [this, Nat.zero_mul, List.take_zero, ← ht]
        symm
        rw [List.drop_eq_nil_iff]
        have h1 : ((cur.toList.drop off).take (n * size)).length ≤ n * size := List.length_take_le _ _
        have h2 : n * size ≤ k * size := Nat.mul_le_mul_right _ (by omega)
        omega⟩
    · rw [if_neg hck]
      have hadd : (Option.map (fun x : Addr => x.add (k * size)) (some ⟨g, off, none⟩)) = some ⟨g, off + k * size, none⟩ := by
        simp only [Option.map_some, Option.some.injEq, Addr.add]
        split
        · rename_i h0; rw [h0, Nat.add_zero]
        · rfl
      rw [hadd]
      refine .inr ⟨g, off + k * size, cap - k, cur, rfl, hh, by omega, by omega, ?_, ?_⟩
      · have : k * size + (cap - k) * size = cap * size := by rw [← Nat.add_mul]; congr 1; omega
        omega
      · rw [← ht, List.drop_take, List.drop_drop, Nat.sub_mul]

theorem run_append_room_off (t ty e : TypeId) (i : TypeInfo) (ht : P.underlying t = some (.slice e)) (hi : P.info? e = some i)
    (g off sLen sCap : Nat) (cur : Array Value) (hg : w.heap[g]? = some (.cells cur e (0, 0)))
    (a : Addr) (m c : Nat) (news : List Value) (hl : news.length = m * i.size) (hnews : ∀ j u, news[j]? = some u → w.cell? (a.add j) = some u) (h1 : ∀ u ∈ news, u.oneCell' = true)
    (hroom : sLen + m ≤ sCap) (hfit : off + sLen * i.size + news.length ≤ cur.size) :
    (Builtin.append_ #[t, t] ty #[.slice (some ⟨g, off, none⟩) sLen sCap, .slice (some a) m c]).run P w =
      .ok (.slice (some ⟨g, off, none⟩) (sLen + m) sCap) (w.setRow g (cur.toList.take (off + sLen * i.size) ++ news ++ cur.toList.drop (off + sLen * i.size + news.length)).toArray) := by
  have hf := run_firstCells_some (P := P) w i.size m a m c news hl hnews
  have hst := run_storeCells_at P g (off + sLen * i.size) e news 0 cur w hg (by simpa using hfit) h1
  simp only [Nat.add_zero] at hst
  simp [Builtin.append_, run_underlying ht, sizeOf, typeInfo, hi, Builtin.lenOf, hroom, hf, Addr.add_lit, hst]

/-- append onto an owned slice. -/
theorem run_append_sl (t ty e : TypeId) (i : TypeInfo) (z : Value) (size bytes : Nat) (ht : P.underlying t = some (.slice e)) (hi : P.info? e = some i) (hz : i.zero = some z)
    (hsize : i.size = size) (hby : i.bytes = bytes) (hzs : z.cells.size = size) (hsz : 0 < size)
    {v : Value} {n : Nat} {xs : List Value} (hown : Sl w e size v n xs)
    (a : Addr) (m c : Nat) (news : List Value) (hl : news.length = m * size) (hnews : ∀ j u, news[j]? = some u → w.cell? (a.add j) = some u) (h1 : ∀ u ∈ news, u.oneCell' = true)
    (h63 : n + m ≤ maxLen) (hbytes : (n + m) * bytes ≤ 140737488355328) :
    ∃ v' w', (Builtin.append_ #[t, t] ty #[v, .slice (some a) m c]).run P w = .ok v' w' ∧ Sl w' e size v' (n + m) (xs ++ news) ∧ w.grownBy w' v.ownBlock ∧
      (v'.ownBlock = v.ownBlock ∨ v'.ownBlock = some w.heap.size) := by
  rcases hown.2 with ⟨rfl, rfl⟩ | ⟨g, off, cap, cur, rfl, hh, hc, hm, hs, htake⟩
  · have hx : xs = [] := List.eq_nil_of_length_eq_zero (by simpa using hown.1)
    subst hx
    obtain ⟨v', w', hr, h2, h3, h4, h5⟩ := run_append_own_at (P := P) w w.heap.size t ty e i z size bytes ht hi hz hsize hby hzs hsz (.slice none 0 0) 0 [] (World.ownsRow_nil w _ e size) a m c news hl hnews h1 h63 hbytes (Nat.le_refl _)
    exact ⟨v', w', hr, Sl.of_own h2, h3, h5⟩
  · by_cases hroom : n + m ≤ cap
    · have hmul : n * size + m * size ≤ cap * size := by rw [← Nat.add_mul]; exact Nat.mul_le_mul_right _ hroom
      subst hsize
      have hr := run_append_room_off (P := P) (w := w) t ty e i ht hi g off n cap cur hh a m c news hl hnews h1 hroom (by omega)
      refine ⟨_, _, hr, ⟨?_, .inr ⟨g, off, cap, _, rfl, setRow_heap w g cur _ e _ hh, hroom, hm, ?_, ?_⟩⟩, ⟨rfl, rfl, rfl, by simp, fun k _ hk => setRow_other w g k _ (fun e => hk (by simp [Value.ownBlock, e]))⟩, .inl rfl⟩
      · rw [List.length_append, hown.1, hl, Nat.add_mul]
      · simp only [List.size_toArray, List.length_append, List.length_take, List.length_drop, Array.length_toList]
        omega
      · have hlen : (cur.toList.take (off + n * i.size)).length = off + n * i.size := by rw [List.length_take, Array.length_toList]; omega
        simp only [List.append_assoc]
        rw [List.drop_append_of_le_length (by omega), List.drop_take]
        have e1 : off + n * i.size - off = n * i.size := by omega
        rw [e1, htake]
        rw [← List.append_assoc]
        have hx : (xs ++ news).length = (n + m) * i.size := by rw [List.length_append, hown.1, hl, Nat.add_mul]
        rw [← hx]
        exact List.take_left
    · have holds : ∀ j u, xs[j]? = some u → w.cell? ((⟨g, off, none⟩ : Addr).add j) = some u := fun j u hu => by
        rw [Addr.add_lit, cell_of_row w g _ cur e (0, 0) hh]
        rw [← htake, List.getElem?_take] at hu
        split at hu
        · rw [List.getElem?_drop, Array.getElem?_toList] at hu; exact hu
        · cases hu
      obtain ⟨v', w', hr, r1, r2⟩ := run_append_arg_grows (P := P) w t ty e i z size bytes ht hi hz hsize hby hzs hsz ⟨g, off, none⟩ n cap xs hown.1 holds a m c news hl hnews (by omega) h63 hbytes
      have hg0 := r1.lt
      refine ⟨v', w', hr, Sl.of_own r1, ⟨r2.os, r2.tape, r2.output, r2.size, fun k hk _ => r2.block k hk (by simp)⟩, .inr ?_⟩
      have hge := grownCap_ge w (n + m) cap e
      have hr2 := run_append_grow (P := P) w t ty e i z ht hi hz ⟨g, off, none⟩ n cap xs (by rw [hown.1, hsize]) holds a m c news (by rw [hl, hsize]) hnews (by omega) (by simp only [maxLen] at h63; omega) (growslice_fits (by omega) (by rw [hby]; exact hbytes))
      rw [hr2] at hr
      injection hr with e1 e2
      rw [← e1]; rfl
end

/-- For the walk. -/
theorem wpList_append_sl {P : Program} (w : World) {ops : Array Oper} {rest : List Oper} {o : Oper} {a : Act} {Q : Exit → Act → World → Prop} (hgd : o.guard = none) (s x : Operand) (t : TypeId)
    (ho : o.op = .call { callee := .builtin .append, args := #[s, x], argTypes := #[t, t] })
    (e : TypeId) (i : TypeInfo) (z : Value) (size bytes : Nat) (ht : P.underlying t = some (.slice e)) (hi : P.info? e = some i) (hz : i.zero = some z)
    (hsize : i.size = size) (hby : i.bytes = bytes) (hzs : z.cells.size = size) (hsz : 0 < size)
    (v : Value) (n : Nat) (xs : List Value) (hs : a.eval s = v) (hown : Sl w e size v n xs)
    (ad : Addr) (m c : Nat) (news : List Value) (hx : a.eval x = .slice (some ad) m c) (hl : news.length = m * size) (hnews : ∀ j u, news[j]? = some u → w.cell? (ad.add j) = some u) (h1 : ∀ u ∈ news, u.oneCell' = true)
    (h63 : n + m ≤ maxLen) (hbytes : (n + m) * bytes ≤ 140737488355328)
    (h : ∀ v' w', Sl w' e size v' (n + m) (xs ++ news) → w.grownBy w' v.ownBlock → (v'.ownBlock = v.ownBlock ∨ v'.ownBlock = some w.heap.size) → wpList P ops Q rest (a.put o.dst v') w') : wpList P ops Q (o :: rest) a w := by
  refine wpList_plain hgd fun K hK => ?_
  obtain ⟨v', w', hr, h2, h3, h4⟩ := run_append_sl (P := P) t o.type e i z size bytes ht hi hz hsize hby hzs hsz hown ad m c news hl hnews h1 h63 hbytes
  unfold Oper.wp execOp
  simp only [ho, resolve, invoke, builtin, Sem.run_bind, Sem.run_pure, Result.andThen_ok, List.map_toArray, List.map_cons, List.map_nil, hs, hx, hr]
  exact hK _ _ (h v' w' h2 h3 h4)

/-- One element, just laid in a block of its own. -/
theorem wpList_append_one {P : Program} {w : World} {ops : Array Oper} {rest : List Oper} {o : Oper} {a : Act} {Q : Exit → Act → World → Prop} (hgd : o.guard = none) (s x : Operand) (t : TypeId)
    (ho : o.op = .call { callee := .builtin .append, args := #[s, x], argTypes := #[t, t] })
    (e : TypeId) (i : TypeInfo) (z : Value) (size bytes : Nat) (ht : P.underlying t = some (.slice e)) (hi : P.info? e = some i) (hz : i.zero = some z)
    (hsize : i.size = size) (hby : i.bytes = bytes) (hzs : z.cells.size = size) (hsz : 0 < size)
    {v : Value} {n : Nat} {xs : List Value} (hs : a.eval s = v) (hown : Sl w e size v n xs)
    {g c : Nat} {news : List Value} (hx : a.eval x = .slice (some ⟨g, 0, none⟩) 1 c) (hb : Blk w g e news.toArray) (hl : news.length = size) (h1 : ∀ u ∈ news, u.oneCell' = true)
    (h63 : n + 1 ≤ maxLen) (hbytes : (n + 1) * bytes ≤ 140737488355328)
    (h : ∀ v' w', Sl w' e size v' (n + 1) (xs ++ news) → w.grownBy w' v.ownBlock → (v'.ownBlock = v.ownBlock ∨ v'.ownBlock = some w.heap.size) → wpList P ops Q rest (a.put o.dst v') w') : wpList P ops Q (o :: rest) a w :=
  wpList_append_sl w hgd s x t ho e i z size bytes ht hi hz hsize hby hzs hsz v n xs hs hown ⟨g, 0, none⟩ 1 c news hx (by omega)
    (fun j u hu => by rw [Addr.add_lit, hb.cell]; simpa using hu) h1 h63 hbytes h

theorem Sl.cells_ {w : World} {e : TypeId} {size g off cap n : Nat} {xs : List Value} (h : Sl w e size (.slice (some ⟨g, off, none⟩) n cap) n xs) : ∀ j u, xs[j]? = some u → w.cell? ((⟨g, off, none⟩ : Addr).add j) = some u := by
  intro j u hu
  rcases h.2 with ⟨hv, _⟩ | ⟨g', off', cap', cur, hv, hh, hc, hm, hs, ht⟩
  · cases hv
  · injection hv with h1 h2 h3
    simp only [Option.some.injEq, Addr.mk.injEq, and_true] at h1
    obtain ⟨rfl, rfl⟩ := h1
    rw [Addr.add_lit, cell_of_row w g _ cur e (0, 0) hh]
    rw [← ht, List.getElem?_take] at hu
    split at hu
    · rw [List.getElem?_drop, Array.getElem?_toList] at hu; exact hu
    · cases hu
/-- append of a whole slice. -/
theorem run_append_sls {P : Program} {w : World} (t ty e : TypeId) (i : TypeInfo) (z : Value) (size bytes : Nat) (ht : P.underlying t = some (.slice e)) (hi : P.info? e = some i) (hz : i.zero = some z)
    (hsize : i.size = size) (hby : i.bytes = bytes) (hzs : z.cells.size = size) (hsz : 0 < size)
    {v : Value} {n : Nat} {xs : List Value} (hown : Sl w e size v n xs) {vx : Value} {m : Nat} {news : List Value} (hx : Sl w e size vx m news) (h1 : ∀ u ∈ news, u.oneCell' = true)
    (h63 : n + m ≤ maxLen) (hbytes : (n + m) * bytes ≤ 140737488355328) :
    ∃ v' w', (Builtin.append_ #[t, t] ty #[v, vx]).run P w = .ok v' w' ∧ Sl w' e size v' (n + m) (xs ++ news) ∧ w.grownBy w' v.ownBlock ∧
      (v'.ownBlock = v.ownBlock ∨ v'.ownBlock = some w.heap.size) := by
  rcases hx.2 with ⟨rfl, rfl⟩ | ⟨gx, offx, cx, curx, rfl, hhx, _⟩
  · have hnw : news = [] := List.eq_nil_of_length_eq_zero (by simpa using hx.1)
    subst hnw
    refine ⟨v, w, ?_, by simpa using hown, ⟨rfl, rfl, rfl, Nat.le_refl _, fun _ _ _ => rfl⟩, .inl rfl⟩
    obtain ⟨a, c, rfl, hc, ha⟩ := hown.shape
    cases a <;> simp [Builtin.append_, run_underlying ht, sizeOf, typeInfo, hi, Builtin.lenOf, hc, Builtin.firstCells, storeCells]
  · exact run_append_sl t ty e i z size bytes ht hi hz hsize hby hzs hsz hown ⟨gx, offx, none⟩ m cx news hx.1 (Sl.cells_ hx) h1 h63 hbytes
theorem wpList_append_sls {P : Program} {w : World} {ops : Array Oper} {rest : List Oper} {o : Oper} {a : Act} {Q : Exit → Act → World → Prop} (hgd : o.guard = none) (s x : Operand) (t : TypeId)
    (ho : o.op = .call { callee := .builtin .append, args := #[s, x], argTypes := #[t, t] })
    (e : TypeId) (i : TypeInfo) (z : Value) (size bytes : Nat) (ht : P.underlying t = some (.slice e)) (hi : P.info? e = some i) (hz : i.zero = some z)
    (hsize : i.size = size) (hby : i.bytes = bytes) (hzs : z.cells.size = size) (hsz : 0 < size)
    {v : Value} {n : Nat} {xs : List Value} (hs : a.eval s = v) (hown : Sl w e size v n xs)
    {vx : Value} {m : Nat} {news : List Value} (hx : a.eval x = vx) (hxs : Sl w e size vx m news) (h1 : ∀ u ∈ news, u.oneCell' = true)
    (h63 : n + m ≤ maxLen) (hbytes : (n + m) * bytes ≤ 140737488355328)
    (h : ∀ v' w', Sl w' e size v' (n + m) (xs ++ news) → w.grownBy w' v.ownBlock → (v'.ownBlock = v.ownBlock ∨ v'.ownBlock = some w.heap.size) → wpList P ops Q rest (a.put o.dst v') w') : wpList P ops Q (o :: rest) a w := by
  refine wpList_plain hgd fun K hK => ?_
  obtain ⟨v', w', hr, h2, h3, h4⟩ := run_append_sls (P := P) t o.type e i z size bytes ht hi hz hsize hby hzs hsz hown hxs h1 h63 hbytes
  unfold Oper.wp execOp
  simp only [ho, resolve, invoke, builtin, Sem.run_bind, Sem.run_pure, Result.andThen_ok, List.map_toArray, List.map_cons, List.map_nil, hs, hx, hr]
  exact hK _ _ (h v' w' h2 h3 h4)

/-! ### Results -/
def resRun (tmps : Array Value) : ResultVar → Sem Value
  | .tmp t => pure (tmps.getD t undef)
  | .cell a t => do loadVar t (← asAddr (tmps.getD a undef))
def Res (P : Program) (w : World) (tmps : Array Value) (r : ResultVar) (v : Value) : Prop := (resRun tmps r).run P w = .ok v w
theorem res_tmp {P : Program} {w : World} {tmps : Array Value} {t : Nat} {v : Value} (h : tmps.getD t undef = v) : Res P w tmps (.tmp t) v := by
  simp [Res, resRun, ← h]
theorem results_eq (fn : Func) (tmps : Array Value) : results fn tmps = (do let vs ← fn.results.mapM (resRun tmps); pure (if h : vs.size = 1 then vs[0] else .tuple vs)) := by
  unfold results
  congr 1
theorem results1 {fn : Func} {r : ResultVar} {tmps : Array Value} {P : Program} {w : World} {v : Value} (h : fn.results = #[r]) (hr : Res P w tmps r v) : (results fn tmps).run P w = .ok v w := by
  unfold Res at hr
  rw [results_eq, h]
  simp [hr]
theorem results2 {fn : Func} {r s : ResultVar} {tmps : Array Value} {P : Program} {w : World} {v u : Value} (h : fn.results = #[r, s]) (hr : Res P w tmps r v) (hs : Res P w tmps s u) : (results fn tmps).run P w = .ok (.tuple #[v, u]) w := by
  unfold Res at hr hs
  rw [results_eq, h]
  simp [Sem.run_bind, hr, hs, Result.andThen]
theorem results3 {fn : Func} {r s q : ResultVar} {tmps : Array Value} {P : Program} {w : World} {v u x : Value} (h : fn.results = #[r, s, q]) (hr : Res P w tmps r v) (hs : Res P w tmps s u) (hq : Res P w tmps q x) : (results fn tmps).run P w = .ok (.tuple #[v, u, x]) w := by
  unfold Res at hr hs hq
  rw [results_eq, h]
  simp [Sem.run_bind, hr, hs, hq, Result.andThen]
theorem run_loadVar_agg {P : Program} {w : World} {t : TypeId} {fs : Array Field} {i : TypeInfo} {a : Addr} {cs : List Value} (hu : P.underlying t = some (.struct fs)) (hi : P.info? t = some i) (hs : i.size = cs.length) (hc : ∀ j u, cs[j]? = some u → w.cell? (a.add j) = some u) :
    (loadVar t a).run P w = .ok (.agg cs.toArray) w := by
  have h1 := run_loadCells_list (P := P) w a cs hc
  simp only [loadVar, isAgg, sizeOf, typeInfo, Sem.run_bind, run_underlying hu, Result.andThen_ok, Sem.run_pure, if_true, program]
  simp [Sem.run, hi, hs, h1, Result.andThen]
/-- A result that lies in a block of its own. -/
theorem res_blk {P : Program} {w : World} {tmps : Array Value} {t : TypeId} {tm g : Nat} {fs : Array Field} {cs : List Value} (hu : P.underlying t = some (.struct fs)) (hi : (P.info? t).map (·.size) = some cs.length) (ht : tmps.getD tm undef = .pointer (some ⟨g, 0, none⟩)) (hb : Blk w g t cs.toArray) :
    Res P w tmps (.cell tm t) (.agg cs.toArray) := by
  cases hi2 : P.info? t with
  | none => rw [hi2] at hi; cases hi
  | some i =>
    rw [hi2] at hi
    simp only [Option.map_some, Option.some.injEq] at hi
    have h1 := run_loadVar_agg (P := P) (w := w) (a := ⟨g, 0, none⟩) hu hi2 hi (fun j u hj => by rw [Addr.add_lit, hb.cell]; simpa using hj)
    unfold Res resRun
    simp only [ht, asAddr]
    simpa using h1

/-! ### copy into a block known whole -/
theorem run_copy_sl {P : Program} {w : World} (dT sT ty e : TypeId) {size : Nat} {g o dLen dCap : Nat} {t : TypeId} {cur : Array Value} {sv : Value} {n : Nat} {xs : List Value}
    (hu : P.underlying dT = some (.slice e)) (hs : (P.info? e).map (·.size) = some size) (hg : Blk w g t cur) (hsrc : Sl w e size sv n xs) (hn : n ≤ dLen) (hfit : o + xs.length ≤ cur.size) (h1 : ∀ v ∈ xs, v.oneCell' = true) :
    (Builtin.copy_ #[dT, sT] ty #[.slice (some ⟨g, o, none⟩) dLen dCap, sv]).run P w =
      .ok (goInt n) (w.setRow g (cur.toList.take o ++ xs ++ cur.toList.drop (o + xs.length)).toArray) := by
  have hmin : Nat.min n dLen = n := Nat.min_eq_left hn
  have hst := run_storeCells_at P g o t xs 0 cur w hg (by simpa using hfit) h1
  cases hq : P.info? e with
  | none => simp [hq] at hs
  | some i =>
    have hi : i.size = size := by simpa [hq] using hs
    rcases hsrc.2 with ⟨rfl, rfl⟩ | ⟨g', off, cap, cur', rfl, hh, hc, hm, hsz, ht⟩
    · have hx : xs = [] := List.eq_nil_of_length_eq_zero (by simpa using hsrc.1)
      subst hx
      simp only [List.append_nil, List.length_nil, Nat.add_zero, List.take_append_drop, Array.toArray_toList] at hst ⊢
      simp [Builtin.copy_, run_underlying hu, Builtin.lenOf, Builtin.firstCells, sizeOf, typeInfo, hq, hst]
    · have holds : ∀ j u, xs[j]? = some u → w.cell? ((⟨g', off, none⟩ : Addr).add j) = some u := fun j u hu => by
        rw [Addr.add_lit, cell_of_row w g' _ cur' e (0, 0) hh]
        rw [← ht, List.getElem?_take] at hu
        split at hu
        · rw [List.getElem?_drop, Array.getElem?_toList] at hu; exact hu
        · cases hu
      have hl := run_loadCells_list (P := P) w ⟨g', off, none⟩ xs holds
      simp [Builtin.copy_, run_underlying hu, Builtin.lenOf, Builtin.firstCells, sizeOf, typeInfo, hq, hi, hmin, ← hsrc.1, hl, hst]
theorem setRow_only (w : World) (g : Nat) (cs : Array Value) : Only [g] w (w.setRow g cs) :=
  ⟨rfl, rfl, rfl, by simp, fun k _ hk => setRow_other w g k _ (fun e => hk (by simp [e]))⟩
theorem wpList_copy_sl {P : Program} {w : World} {ops : Array Oper} {rest : List Oper} {o : Oper} {a : Act} {Q : Exit → Act → World → Prop} (hgd : o.guard = none) (d s : Operand) (dT sT : TypeId)
    (ho : o.op = .call { callee := .builtin .copy, args := #[d, s], argTypes := #[dT, sT] }) (e : TypeId) {size : Nat} {g off dLen dCap : Nat} {t : TypeId} {cur : Array Value} {sv : Value} {n : Nat} {xs : List Value}
    (hu : P.underlying dT = some (.slice e)) (hs : (P.info? e).map (·.size) = some size) (hd : a.eval d = .slice (some ⟨g, off, none⟩) dLen dCap) (hsv : a.eval s = sv) (hg : Blk w g t cur) (hsrc : Sl w e size sv n xs) (hn : n ≤ dLen) (hfit : off + xs.length ≤ cur.size) (h1 : ∀ v ∈ xs, v.oneCell' = true)
    (h : ∀ w', Blk w' g t (cur.toList.take off ++ xs ++ cur.toList.drop (off + xs.length)).toArray → Only [g] w w' → wpList P ops Q rest (a.put o.dst (.int .i64 n)) w') : wpList P ops Q (o :: rest) a w := by
  refine wpList_plain hgd fun K hK => ?_
  have hr := run_copy_sl (P := P) dT sT o.type e hu hs hg hsrc hn hfit h1 (dCap := dCap)
  unfold Oper.wp execOp
  simp only [ho, resolve, invoke, builtin, Sem.run_bind, Sem.run_pure, Result.andThen_ok, List.map_toArray, List.map_cons, List.map_nil, hd, hsv, hr]
  exact hK _ _ (h _ (setRow_heap w g cur _ t _ hg) (setRow_only w g _))
end Go.Fl
