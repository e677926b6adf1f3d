/-
  Words for memory: a block known whole; what a call may have turned; a slice that a structure owns, wherever it begins in its block; append onto it.
-/
import Derived.WalkKit
import Derived.Deep.Draws
import Derived.Deep.AppendLies
import Derived.Lib.Hide
import Derived.Carry
import Derived.OpenVars
import Derived.OpenShut
import Derived.ProofKit
import Derived.ChangeSame
import Derived.Deep.Slices
import Derived.Deep.Fields
set_option linter.unusedSimpArgs false
set_option linter.unusedVariables false
set_option linter.unusedSimpArgs false
set_option linter.unusedVariables false
namespace Go.Fl
open Go.RowKit

/-! ### A block known whole -/
def Blk (w : World) (g : Nat) (t : TypeId) (cs : Array Value) : Prop := w.heap[g]? = some (.cells cs t (0, 0))
section
variable {w w' : World} {g : Nat} {t : TypeId} {cs : Array Value}
theorem Blk.lt (h : Blk w g t cs) : g < w.heap.size := (Array.getElem?_eq_some_iff.1 h).1
theorem Blk.cell (h : Blk w g t cs) (i : Nat) : w.cell? ⟨g, i, none⟩ = cs[i]? := cell_of_row w g i cs t (0, 0) h
theorem Blk.frozen (h : Blk w g t cs) (i : Nat) : w.frozen? ⟨g, i, none⟩ = false := by
  unfold Blk at h
  simp [World.frozen?, h]
theorem Blk.facts (h : Blk w g t cs) : (∀ i, w.cell? ⟨g, i, none⟩ = cs[i]?) ∧ (∀ i, w.frozen? ⟨g, i, none⟩ = false) ∧ g < w.heap.size := ⟨h.cell, h.frozen, h.lt⟩
theorem Blk.new (w : World) (t : TypeId) (cs : Array Value) : Blk (w.alloc (.cells cs t)) w.heap.size t cs := heap_alloc_new w _
theorem Blk.drew (h : Blk w g t cs) : Blk w.drew g t cs := h
theorem Blk.drewN (h : Blk w g t cs) (n : Nat) : Blk (w.drewN n) g t cs := h
theorem Blk.alloc (h : Blk w g t cs) (o : Obj) : Blk (w.alloc o) g t cs := (Below.heap_alloc w o g h.lt).trans h
theorem Blk.set_ (h : Blk w g t cs) (i : Nat) (u : Value) : Blk (w.setCell ⟨g, i, none⟩ u) g t (cs.setIfInBounds i u) := by
  unfold Blk at h ⊢
  simp [World.setCell, Array.getElem?_modify, h]
def SetEq (a b : Array Value) : Prop := a = b
theorem SetEq.rfl' {a : Array Value} : SetEq a a := Eq.refl a
theorem Blk.set' {cs' : Array Value} {i : Nat} {u : Value} (h : Blk w g t cs) (hc : SetEq (cs.setIfInBounds i u) cs') : Blk (w.setCell ⟨g, i, none⟩ u) g t cs' := (show cs.setIfInBounds i u = cs' from hc) ▸ h.set_ i u
theorem Blk.far (h : Blk w g t cs) {p : Addr} (hp : g ≠ p.block) (u : Value) : Blk (w.setCell p u) g t cs := (Below.heap_setCell w p u g hp).trans h
theorem Blk.ne_ {g' : Nat} {t' : TypeId} {cs' : Array Value} (h : Blk w g t cs) (h' : Blk w g' t' cs') (hne : t ≠ t') : g ≠ g' := by
  rintro rfl
  unfold Blk at h h'
  rw [h] at h'
  injection h' with h'
  injection h' with _ ht
  exact hne ht
end

theorem Blk.is_ {w : World} {g : Nat} {t : TypeId} {cs cs' : Array Value} (h : Blk w g t cs) (hc : SetEq cs cs') : Blk w g t cs' := (show cs = cs' from hc) ▸ h

/-! ### What a call may have turned -/
structure Only (S : List Nat) (w w' : World) : Prop where
  os : w'.os = w.os
  tape : w'.tape = w.tape
  output : w'.output = w.output
  size : w.heap.size ≤ w'.heap.size
  block : ∀ k, k < w.heap.size → k ∉ S → w'.heap[k]? = w.heap[k]?
section
variable {S T : List Nat} {a b c w w' : World}
theorem Only.refl (S : List Nat) (w : World) : Only S w w := ⟨rfl, rfl, rfl, Nat.le_refl _, fun _ _ _ => rfl⟩
theorem Only.trans (h : Only S a b) (k : Only S b c) : Only S a c :=
  ⟨k.os.trans h.os, k.tape.trans h.tape, k.output.trans h.output, Nat.le_trans h.size k.size, fun i hi hs => (k.block i (Nat.lt_of_lt_of_le hi h.size) hs).trans (h.block i hi hs)⟩
/-- The second step may have turned what the first one made besides. -/
theorem Only.trans' (h : Only S a b) (k : Only T b c) (hT : ∀ i ∈ T, i ∈ S ∨ a.heap.size ≤ i) : Only S a c :=
  ⟨k.os.trans h.os, k.tape.trans h.tape, k.output.trans h.output, Nat.le_trans h.size k.size, fun i hi hs => (k.block i (Nat.lt_of_lt_of_le hi h.size) (fun ht => by
    rcases hT i ht with h1 | h1
    · exact hs h1
    · omega)).trans (h.block i hi hs)⟩
theorem Only.mono (h : Only S a b) (hS : ∀ i ∈ S, i ∈ T) : Only T a b := ⟨h.os, h.tape, h.output, h.size, fun i hi hs => h.block i hi fun hm => hs (hS i hm)⟩
theorem Only.mono' (h : Only S a b) (hS : ∀ i ∈ S, i ∈ T ∨ a.heap.size ≤ i) : Only T a b := (Only.refl T a).trans' h hS
theorem Only.drew (h : Only S a w) : Only S a w.drew := ⟨h.os, h.tape, h.output, h.size, h.block⟩
theorem Only.drewN (h : Only S a w) (n : Nat) : Only S a (w.drewN n) := ⟨h.os, h.tape, h.output, h.size, h.block⟩
theorem Only.alloc (h : Only S a w) (o : Obj) : Only S a (w.alloc o) :=
  ⟨h.os, h.tape, h.output, Nat.le_trans h.size (by simp), fun i hi hs => (Below.heap_alloc w o i (Nat.lt_of_lt_of_le hi h.size)).trans (h.block i hi hs)⟩
theorem Only.setCell (h : Only S a w) {p : Addr} (hp : p.block ∈ S ∨ a.heap.size ≤ p.block) (u : Value) : Only S a (w.setCell p u) :=
  ⟨h.os, h.tape, h.output, by simpa [World.setCell] using h.size, fun i hi hs => (Below.heap_setCell w p u i (by
    rintro rfl
    rcases hp with hp | hp
    · exact hs hp
    · omega)).trans (h.block i hi hs)⟩
theorem Only.grown {row : Option Nat} (h : Only S a w) (hg : w.grownBy w' row) (hr : ∀ k, row = some k → k ∈ S ∨ a.heap.size ≤ k) : Only S a w' :=
  ⟨hg.os.trans h.os, hg.tape.trans h.tape, hg.output.trans h.output, Nat.le_trans h.size hg.size, fun i hi hs => (hg.block i (Nat.lt_of_lt_of_le hi h.size) (fun e => by
    rcases hr i e.symm with h1 | h1
    · exact hs h1
    · omega)).trans (h.block i hi hs)⟩
theorem Only.below (h : Only [] a w) : Below a.heap.size a w := ⟨h.os, h.tape, h.output, h.size, fun i hi => h.block i hi (by simp)⟩
theorem Only.of_below (h : Below a.heap.size a w) (S : List Nat) : Only S a w := ⟨h.os, h.tape, h.output, h.size, fun i hi _ => h.block i hi⟩
theorem Only.cell (h : Only S a w) {p : Addr} (hp : p.block < a.heap.size) (hs : p.block ∉ S) : w.cell? p = a.cell? p := World.cell?_of_block (w := a) (h.block p.block hp hs)
theorem Only.frozen (h : Only S a w) {p : Addr} (hp : p.block < a.heap.size) (hs : p.block ∉ S) : w.frozen? p = a.frozen? p := World.frozen?_of_block (w := a) (h.block p.block hp hs)
theorem Blk.only {g : Nat} {t : TypeId} {cs : Array Value} (hb : Blk a g t cs) (h : Only S a w) (hs : g ∉ S) : Blk w g t cs := (h.block g hb.lt hs).trans hb
theorem Only.map {b : Nat} {es : Array MapEntry} {n : Nat} (h : Only S a w) (hb : a.heap[b]? = some (.map es n)) (hs : b ∉ S) : w.heap[b]? = some (.map es n) := (h.block b (Array.getElem?_eq_some_iff.1 hb).1 hs).trans hb
end

/-! ### A slice that is owned -/
/-- The slice value v, of n elements of 'size' cells each, lies in a block of element type e of which nothing is frozen, and reads xs. -/
def Sl (w : World) (e : TypeId) (size : Nat) (v : Value) (n : Nat) (xs : List Value) : Prop :=
  xs.length = n * size ∧
  ((v = .slice none 0 0 ∧ n = 0) ∨
   ∃ g off cap cur, v = .slice (some ⟨g, off, none⟩) n cap ∧ w.heap[g]? = some (.cells cur e (0, 0)) ∧ n ≤ cap ∧ cap ≤ maxLen ∧ off + cap * size ≤ cur.size ∧ (cur.toList.drop off).take (n * size) = xs)
section
variable {P : Program} {w w' : World} {e : TypeId} {size : Nat} {v : Value} {n : Nat} {xs : List Value}
theorem Sl.nil (w : World) (e : TypeId) (size : Nat) : Sl w e size (.slice none 0 0) 0 [] := ⟨by simp, .inl ⟨rfl, rfl⟩⟩
theorem Sl.of_own {base : Nat} (h : w.ownsRow base e size v n xs) : Sl w e size v n xs := by
  refine ⟨h.1, ?_⟩
  rcases h.2 with h2 | ⟨g, cap, cur, rfl, _, hg, hn, hm, hs, ht⟩
  · exact .inl h2
  · exact .inr ⟨g, 0, cap, cur, rfl, hg, hn, hm, by omega, by simpa using ht⟩
theorem Sl.keep (h : Sl w e size v n xs) (hk : ∀ g, v.ownBlock = some g → w'.heap[g]? = w.heap[g]?) : Sl w' e size v n xs := by
  refine ⟨h.1, ?_⟩
  rcases h.2 with h2 | ⟨g, off, cap, cur, rfl, hg, r⟩
  · exact .inl h2
  · exact .inr ⟨g, off, cap, cur, rfl, (hk g rfl).trans hg, r⟩
theorem Sl.lt (h : Sl w e size v n xs) : ∀ g, v.ownBlock = some g → g < w.heap.size := by
  intro g hg
  rcases h.2 with ⟨rfl, _⟩ | ⟨g', off, cap, cur, rfl, hh, _⟩
  · simp [Value.ownBlock] at hg
  · simp [Value.ownBlock] at hg; subst hg; exact (Array.getElem?_eq_some_iff.1 hh).1
theorem Sl.only {S : List Nat} (h : Sl w e size v n xs) (ho : Only S w w') (hS : ∀ g, v.ownBlock = some g → g ∉ S) : Sl w' e size v n xs := h.keep fun g hg => ho.block g (h.lt g hg) (hS g hg)
theorem Sl.drew (h : Sl w e size v n xs) : Sl w.drew e size v n xs := h
theorem Sl.drewN (h : Sl w e size v n xs) (k : Nat) : Sl (w.drewN k) e size v n xs := h
theorem Sl.alloc (h : Sl w e size v n xs) (o : Obj) : Sl (w.alloc o) e size v n xs := h.keep fun g hg => Below.heap_alloc w o g (h.lt g hg)
theorem Sl.far (h : Sl w e size v n xs) {p : Addr} (hp : v.ownBlock ≠ some p.block) (u : Value) : Sl (w.setCell p u) e size v n xs := h.keep fun g hg => Below.heap_setCell w p u g (fun he => hp (by rw [hg, he]))
/-- The value of a slice that is not empty. -/
theorem Sl.form (h : Sl w e size v n xs) (hn : 0 < n) : ∃ g off cap, v = .slice (some ⟨g, off, none⟩) n cap ∧ g < w.heap.size ∧ n ≤ cap ∧ cap ≤ maxLen ∧
    (∀ j, j < n * size → w.cell? ⟨g, off + j, none⟩ = xs[j]?) ∧ (∀ j, w.frozen? ⟨g, j, none⟩ = false) := by
  rcases h.2 with ⟨_, rfl⟩ | ⟨g, off, cap, cur, rfl, hh, hc, hm, hs, ht⟩
  · omega
  · refine ⟨g, off, cap, rfl, (Array.getElem?_eq_some_iff.1 hh).1, hc, hm, fun j hj => ?_, fun j => Blk.frozen (t := e) (cs := cur) hh j⟩
    rw [cell_of_row w g _ cur e (0, 0) hh, ← ht, List.getElem?_take, if_pos hj, List.getElem?_drop, Array.getElem?_toList]
/-- Whatever its length. -/
theorem Sl.shape (h : Sl w e size v n xs) : ∃ a cap, v = .slice a n cap ∧ n ≤ cap ∧ (a = none → n = 0) := by
  rcases h.2 with ⟨rfl, rfl⟩ | ⟨g, off, cap, cur, rfl, hh, hc, hm, hs, ht⟩
  · exact ⟨none, 0, rfl, Nat.le_refl _, fun _ => rfl⟩
  · exact ⟨_, cap, rfl, hc, fun h => by cases h⟩
theorem Sl.len (h : Sl w e size v n xs) : xs.length = n * size := h.1

/-- What is cut off in front. -/
theorem Sl.cut {a : Option Addr} {cap k : Nat} (h : Sl w e size (.slice a n cap) n xs) (hk : k ≤ n) :
    Sl w e size (.slice (if cap = k then a else a.map (·.add (k * size))) (n - k) (cap - k)) (n - k) (xs.drop (k * size)) := by
  refine ⟨by rw [List.length_drop, h.1, Nat.sub_mul], ?_⟩
  rcases h.2 with ⟨hv, rfl⟩ | ⟨g, off, cap', cur, hv, hh, hc, hm, hs, ht⟩
  · injection hv with h1 _ h3
    subst h1; subst h3
    obtain rfl : k = 0 := by omega
    exact .inl ⟨by simp, by omega⟩
  · injection hv with h1 _ h3
    subst h1; subst h3
    by_cases hck : cap = k
    · rw [if_pos hck]
      exact .inr ⟨g, off, cap - k, cur, rfl, hh, by omega, by omega, by have := Nat.mul_le_mul_right size (show cap - k ≤ cap by omega); omega, by
        have : n - k = 0 := by omega
        rw [this, Nat.zero_mul, List.take_zero, ← ht]
        symm
        rw [List.drop_eq_nil_iff]
        have h1 : ((cur.toList.drop off).take (n * size)).length ≤ n * size := List.length_take_le _ _
        have h2 : n * size ≤ k * size := Nat.mul_le_mul_right _ (by omega)
        omega⟩
    · rw [if_neg hck]
      have hadd : (Option.map (fun x : Addr => x.add (k * size)) (some ⟨g, off, none⟩)) = some ⟨g, off + k * size, none⟩ := by
        simp only [Option.map_some, Option.some.injEq, Addr.add]
        split
        · rename_i h0; rw [h0, Nat.add_zero]
        · rfl
      rw [hadd]
      refine .inr ⟨g, off + k * size, cap - k, cur, rfl, hh, by omega, by omega, ?_, ?_⟩
      · have : k * size + (cap - k) * size = cap * size := by rw [← Nat.add_mul]; congr 1; omega
        omega
      · rw [← ht, List.drop_take, List.drop_drop, Nat.sub_mul]

theorem run_append_room_off (t ty e : TypeId) (i : TypeInfo) (ht : P.underlying t = some (.slice e)) (hi : P.info? e = some i)
    (g off sLen sCap : Nat) (cur : Array Value) (hg : w.heap[g]? = some (.cells cur e (0, 0)))
    (a : Addr) (m c : Nat) (news : List Value) (hl : news.length = m * i.size) (hnews : ∀ j u, news[j]? = some u → w.cell? (a.add j) = some u) (h1 : ∀ u ∈ news, u.oneCell' = true)
    (hroom : sLen + m ≤ sCap) (hfit : off + sLen * i.size + news.length ≤ cur.size) :
    (Builtin.append_ #[t, t] ty #[.slice (some ⟨g, off, none⟩) sLen sCap, .slice (some a) m c]).run P w =
      .ok (.slice (some ⟨g, off, none⟩) (sLen + m) sCap) (w.setRow g (cur.toList.take (off + sLen * i.size) ++ news ++ cur.toList.drop (off + sLen * i.size + news.length)).toArray) := by
  have hf := run_firstCells_some (P := P) w i.size m a m c news hl hnews
  have hst := run_storeCells_at P g (off + sLen * i.size) e news 0 cur w hg (by simpa using hfit) h1
  simp only [Nat.add_zero] at hst
  simp [Builtin.append_, run_underlying ht, sizeOf, typeInfo, hi, Builtin.lenOf, hroom, hf, Addr.add_lit, hst]

/-- append onto an owned slice. -/
theorem run_append_sl (t ty e : TypeId) (i : TypeInfo) (z : Value) (size bytes : Nat) (ht : P.underlying t = some (.slice e)) (hi : P.info? e = some i) (hz : i.zero = some z)
    (hsize : i.size = size) (hby : i.bytes = bytes) (hzs : z.cells.size = size) (hsz : 0 < size)
    {v : Value} {n : Nat} {xs : List Value} (hown : Sl w e size v n xs)
    (a : Addr) (m c : Nat) (news : List Value) (hl : news.length = m * size) (hnews : ∀ j u, news[j]? = some u → w.cell? (a.add j) = some u) (h1 : ∀ u ∈ news, u.oneCell' = true)
    (h63 : n + m ≤ maxLen) (hbytes : (n + m) * bytes ≤ 140737488355328) :
    ∃ v' w', (Builtin.append_ #[t, t] ty #[v, .slice (some a) m c]).run P w = .ok v' w' ∧ Sl w' e size v' (n + m) (xs ++ news) ∧ w.grownBy w' v.ownBlock ∧
      (v'.ownBlock = v.ownBlock ∨ v'.ownBlock = some w.heap.size) := by
  rcases hown.2 with ⟨rfl, rfl⟩ | ⟨g, off, cap, cur, rfl, hh, hc, hm, hs, htake⟩
  · have hx : xs = [] := List.eq_nil_of_length_eq_zero (by simpa using hown.1)
    subst hx
    obtain ⟨v', w', hr, h2, h3, h4, h5⟩ := run_append_own_at (P := P) w w.heap.size t ty e i z size bytes ht hi hz hsize hby hzs hsz (.slice none 0 0) 0 [] (World.ownsRow_nil w _ e size) a m c news hl hnews h1 h63 hbytes (Nat.le_refl _)
    exact ⟨v', w', hr, Sl.of_own h2, h3, h5⟩
  · by_cases hroom : n + m ≤ cap
    · have hmul : n * size + m * size ≤ cap * size := by rw [← Nat.add_mul]; exact Nat.mul_le_mul_right _ hroom
      subst hsize
      have hr := run_append_room_off (P := P) (w := w) t ty e i ht hi g off n cap cur hh a m c news hl hnews h1 hroom (by omega)
      refine ⟨_, _, hr, ⟨?_, .inr ⟨g, off, cap, _, rfl, setRow_heap w g cur _ e _ hh, hroom, hm, ?_, ?_⟩⟩, ⟨rfl, rfl, rfl, by simp, fun k _ hk => setRow_other w g k _ (fun e => hk (by simp [Value.ownBlock, e]))⟩, .inl rfl⟩
      · rw [List.length_append, hown.1, hl, Nat.add_mul]
      · simp only [List.size_toArray, List.length_append, List.length_take, List.length_drop, Array.length_toList]
        omega
      · have hlen : (cur.toList.take (off + n * i.size)).length = off + n * i.size := by rw [List.length_take, Array.length_toList]; omega
        simp only [List.append_assoc]
        rw [List.drop_append_of_le_length (by omega), List.drop_take]
        have e1 : off + n * i.size - off = n * i.size := by omega
        rw [e1, htake]
        rw [← List.append_assoc]
        have hx : (xs ++ news).length = (n + m) * i.size := by rw [List.length_append, hown.1, hl, Nat.add_mul]
        rw [← hx]
        exact List.take_left
    · have holds : ∀ j u, xs[j]? = some u → w.cell? ((⟨g, off, none⟩ : Addr).add j) = some u := fun j u hu => by
        rw [Addr.add_lit, cell_of_row w g _ cur e (0, 0) hh]
        rw [← htake, List.getElem?_take] at hu
        split at hu
        · rw [List.getElem?_drop, Array.getElem?_toList] at hu; exact hu
        · cases hu
      obtain ⟨v', w', hr, r1, r2⟩ := run_append_arg_grows (P := P) w t ty e i z size bytes ht hi hz hsize hby hzs hsz ⟨g, off, none⟩ n cap xs hown.1 holds a m c news hl hnews (by omega) h63 hbytes
      have hg0 := r1.lt
      refine ⟨v', w', hr, Sl.of_own r1, ⟨r2.os, r2.tape, r2.output, r2.size, fun k hk _ => r2.block k hk (by simp)⟩, .inr ?_⟩
      have hge := grownCap_ge w (n + m) cap e
      have hr2 := run_append_grow (P := P) w t ty e i z ht hi hz ⟨g, off, none⟩ n cap xs (by rw [hown.1, hsize]) holds a m c news (by rw [hl, hsize]) hnews (by omega) (by simp only [maxLen] at h63; omega) (growslice_fits (by omega) (by rw [hby]; exact hbytes))
      rw [hr2] at hr
      injection hr with e1 e2
      rw [← e1]; rfl
end

/-- For the walk. -/
theorem wpList_append_sl {P : Program} (w : World) {ops : Array Oper} {rest : List Oper} {o : Oper} {a : Act} {Q : Exit → Act → World → Prop} (hgd : o.guard = none) (s x : Operand) (t : TypeId)
    (ho : o.op = .call { callee := .builtin .append, args := #[s, x], argTypes := #[t, t] })
    (e : TypeId) (i : TypeInfo) (z : Value) (size bytes : Nat) (ht : P.underlying t = some (.slice e)) (hi : P.info? e = some i) (hz : i.zero = some z)
    (hsize : i.size = size) (hby : i.bytes = bytes) (hzs : z.cells.size = size) (hsz : 0 < size)
    (v : Value) (n : Nat) (xs : List Value) (hs : a.eval s = v) (hown : Sl w e size v n xs)
    (ad : Addr) (m c : Nat) (news : List Value) (hx : a.eval x = .slice (some ad) m c) (hl : news.length = m * size) (hnews : ∀ j u, news[j]? = some u → w.cell? (ad.add j) = some u) (h1 : ∀ u ∈ news, u.oneCell' = true)
    (h63 : n + m ≤ maxLen) (hbytes : (n + m) * bytes ≤ 140737488355328)
    (h : ∀ v' w', Sl w' e size v' (n + m) (xs ++ news) → w.grownBy w' v.ownBlock → (v'.ownBlock = v.ownBlock ∨ v'.ownBlock = some w.heap.size) → wpList P ops Q rest (a.put o.dst v') w') : wpList P ops Q (o :: rest) a w := by
  refine wpList_plain hgd fun K hK => ?_
  obtain ⟨v', w', hr, h2, h3, h4⟩ := run_append_sl (P := P) t o.type e i z size bytes ht hi hz hsize hby hzs hsz hown ad m c news hl hnews h1 h63 hbytes
  unfold Oper.wp execOp
  simp only [ho, resolve, invoke, builtin, Sem.run_bind, Sem.run_pure, Result.andThen_ok, List.map_toArray, List.map_cons, List.map_nil, hs, hx, hr]
  exact hK _ _ (h v' w' h2 h3 h4)

/-- One element, just laid in a block of its own. -/
theorem wpList_append_one {P : Program} {w : World} {ops : Array Oper} {rest : List Oper} {o : Oper} {a : Act} {Q : Exit → Act → World → Prop} (hgd : o.guard = none) (s x : Operand) (t : TypeId)
    (ho : o.op = .call { callee := .builtin .append, args := #[s, x], argTypes := #[t, t] })
    (e : TypeId) (i : TypeInfo) (z : Value) (size bytes : Nat) (ht : P.underlying t = some (.slice e)) (hi : P.info? e = some i) (hz : i.zero = some z)
    (hsize : i.size = size) (hby : i.bytes = bytes) (hzs : z.cells.size = size) (hsz : 0 < size)
    {v : Value} {n : Nat} {xs : List Value} (hs : a.eval s = v) (hown : Sl w e size v n xs)
    {g c : Nat} {news : List Value} (hx : a.eval x = .slice (some ⟨g, 0, none⟩) 1 c) (hb : Blk w g e news.toArray) (hl : news.length = size) (h1 : ∀ u ∈ news, u.oneCell' = true)
    (h63 : n + 1 ≤ maxLen) (hbytes : (n + 1) * bytes ≤ 140737488355328)
    (h : ∀ v' w', Sl w' e size v' (n + 1) (xs ++ news) → w.grownBy w' v.ownBlock → (v'.ownBlock = v.ownBlock ∨ v'.ownBlock = some w.heap.size) → wpList P ops Q rest (a.put o.dst v') w') : wpList P ops Q (o :: rest) a w :=
  wpList_append_sl w hgd s x t ho e i z size bytes ht hi hz hsize hby hzs hsz v n xs hs hown ⟨g, 0, none⟩ 1 c news hx (by omega)
    (fun j u hu => by rw [Addr.add_lit, hb.cell]; simpa using hu) h1 h63 hbytes h

theorem Sl.cells_ {w : World} {e : TypeId} {size g off cap n : Nat} {xs : List Value} (h : Sl w e size (.slice (some ⟨g, off, none⟩) n cap) n xs) : ∀ j u, xs[j]? = some u → w.cell? ((⟨g, off, none⟩ : Addr).add j) = some u := by
  intro j u hu
  rcases h.2 with ⟨hv, _⟩ | ⟨g', off', cap', cur, hv, hh, hc, hm, hs, ht⟩
  · cases hv
  · injection hv with h1 h2 h3
    simp only [Option.some.injEq, Addr.mk.injEq, and_true] at h1
    obtain ⟨rfl, rfl⟩ := h1
    rw [Addr.add_lit, cell_of_row w g _ cur e (0, 0) hh]
    rw [← ht, List.getElem?_take] at hu
    split at hu
    · rw [List.getElem?_drop, Array.getElem?_toList] at hu; exact hu
    · cases hu
/-- append of a whole slice. -/
theorem run_append_sls {P : Program} {w : World} (t ty e : TypeId) (i : TypeInfo) (z : Value) (size bytes : Nat) (ht : P.underlying t = some (.slice e)) (hi : P.info? e = some i) (hz : i.zero = some z)
    (hsize : i.size = size) (hby : i.bytes = bytes) (hzs : z.cells.size = size) (hsz : 0 < size)
    {v : Value} {n : Nat} {xs : List Value} (hown : Sl w e size v n xs) {vx : Value} {m : Nat} {news : List Value} (hx : Sl w e size vx m news) (h1 : ∀ u ∈ news, u.oneCell' = true)
    (h63 : n + m ≤ maxLen) (hbytes : (n + m) * bytes ≤ 140737488355328) :
    ∃ v' w', (Builtin.append_ #[t, t] ty #[v, vx]).run P w = .ok v' w' ∧ Sl w' e size v' (n + m) (xs ++ news) ∧ w.grownBy w' v.ownBlock ∧
      (v'.ownBlock = v.ownBlock ∨ v'.ownBlock = some w.heap.size) := by
  rcases hx.2 with ⟨rfl, rfl⟩ | ⟨gx, offx, cx, curx, rfl, hhx, _⟩
  · have hnw : news = [] := List.eq_nil_of_length_eq_zero (by simpa using hx.1)
    subst hnw
    refine ⟨v, w, ?_, by simpa using hown, ⟨rfl, rfl, rfl, Nat.le_refl _, fun _ _ _ => rfl⟩, .inl rfl⟩
    obtain ⟨a, c, rfl, hc, ha⟩ := hown.shape
    cases a <;> simp [Builtin.append_, run_underlying ht, sizeOf, typeInfo, hi, Builtin.lenOf, hc, Builtin.firstCells, storeCells]
  · exact run_append_sl t ty e i z size bytes ht hi hz hsize hby hzs hsz hown ⟨gx, offx, none⟩ m cx news hx.1 (Sl.cells_ hx) h1 h63 hbytes
theorem wpList_append_sls {P : Program} {w : World} {ops : Array Oper} {rest : List Oper} {o : Oper} {a : Act} {Q : Exit → Act → World → Prop} (hgd : o.guard = none) (s x : Operand) (t : TypeId)
    (ho : o.op = .call { callee := .builtin .append, args := #[s, x], argTypes := #[t, t] })
    (e : TypeId) (i : TypeInfo) (z : Value) (size bytes : Nat) (ht : P.underlying t = some (.slice e)) (hi : P.info? e = some i) (hz : i.zero = some z)
    (hsize : i.size = size) (hby : i.bytes = bytes) (hzs : z.cells.size = size) (hsz : 0 < size)
    {v : Value} {n : Nat} {xs : List Value} (hs : a.eval s = v) (hown : Sl w e size v n xs)
    {vx : Value} {m : Nat} {news : List Value} (hx : a.eval x = vx) (hxs : Sl w e size vx m news) (h1 : ∀ u ∈ news, u.oneCell' = true)
    (h63 : n + m ≤ maxLen) (hbytes : (n + m) * bytes ≤ 140737488355328)
    (h : ∀ v' w', Sl w' e size v' (n + m) (xs ++ news) → w.grownBy w' v.ownBlock → (v'.ownBlock = v.ownBlock ∨ v'.ownBlock = some w.heap.size) → wpList P ops Q rest (a.put o.dst v') w') : wpList P ops Q (o :: rest) a w := by
  refine wpList_plain hgd fun K hK => ?_
  obtain ⟨v', w', hr, h2, h3, h4⟩ := run_append_sls (P := P) t o.type e i z size bytes ht hi hz hsize hby hzs hsz hown hxs h1 h63 hbytes
  unfold Oper.wp execOp
  simp only [ho, resolve, invoke, builtin, Sem.run_bind, Sem.run_pure, Result.andThen_ok, List.map_toArray, List.map_cons, List.map_nil, hs, hx, hr]
  exact hK _ _ (h v' w' h2 h3 h4)

/-! ### Results -/
def resRun (tmps : Array Value) : ResultVar → Sem Value
  | .tmp t => pure (tmps.getD t undef)
  | .cell a t => do loadVar t (← asAddr (tmps.getD a undef))
def Res (P : Program) (w : World) (tmps : Array Value) (r : ResultVar) (v : Value) : Prop := (resRun tmps r).run P w = .ok v w
theorem res_tmp {P : Program} {w : World} {tmps : Array Value} {t : Nat} {v : Value} (h : tmps.getD t undef = v) : Res P w tmps (.tmp t) v := by
  simp [Res, resRun, ← h]
theorem results_eq (fn : Func) (tmps : Array Value) : results fn tmps = (do let vs ← fn.results.mapM (resRun tmps); pure (if h : vs.size = 1 then vs[0] else .tuple vs)) := by
  unfold results
  congr 1
theorem results1 {fn : Func} {r : ResultVar} {tmps : Array Value} {P : Program} {w : World} {v : Value} (h : fn.results = #[r]) (hr : Res P w tmps r v) : (results fn tmps).run P w = .ok v w := by
  unfold Res at hr
  rw [results_eq, h]
  simp [hr]
theorem results2 {fn : Func} {r s : ResultVar} {tmps : Array Value} {P : Program} {w : World} {v u : Value} (h : fn.results = #[r, s]) (hr : Res P w tmps r v) (hs : Res P w tmps s u) : (results fn tmps).run P w = .ok (.tuple #[v, u]) w := by
  unfold Res at hr hs
  rw [results_eq, h]
  simp [Sem.run_bind, hr, hs, Result.andThen]
theorem results3 {fn : Func} {r s q : ResultVar} {tmps : Array Value} {P : Program} {w : World} {v u x : Value} (h : fn.results = #[r, s, q]) (hr : Res P w tmps r v) (hs : Res P w tmps s u) (hq : Res P w tmps q x) : (results fn tmps).run P w = .ok (.tuple #[v, u, x]) w := by
  unfold Res at hr hs hq
  rw [results_eq, h]
  simp [Sem.run_bind, hr, hs, hq, Result.andThen]
theorem run_loadVar_agg {P : Program} {w : World} {t : TypeId} {fs : Array Field} {i : TypeInfo} {a : Addr} {cs : List Value} (hu : P.underlying t = some (.struct fs)) (hi : P.info? t = some i) (hs : i.size = cs.length) (hc : ∀ j u, cs[j]? = some u → w.cell? (a.add j) = some u) :
    (loadVar t a).run P w = .ok (.agg cs.toArray) w := by
  have h1 := run_loadCells_list (P := P) w a cs hc
  simp only [loadVar, isAgg, sizeOf, typeInfo, Sem.run_bind, run_underlying hu, Result.andThen_ok, Sem.run_pure, if_true, program]
  simp [Sem.run, hi, hs, h1, Result.andThen]
/-- A result that lies in a block of its own. -/
theorem res_blk {P : Program} {w : World} {tmps : Array Value} {t : TypeId} {tm g : Nat} {fs : Array Field} {cs : List Value} (hu : P.underlying t = some (.struct fs)) (hi : (P.info? t).map (·.size) = some cs.length) (ht : tmps.getD tm undef = .pointer (some ⟨g, 0, none⟩)) (hb : Blk w g t cs.toArray) :
    Res P w tmps (.cell tm t) (.agg cs.toArray) := by
  cases hi2 : P.info? t with
  | none => rw [hi2] at hi; cases hi
  | some i =>
    rw [hi2] at hi
    simp only [Option.map_some, Option.some.injEq] at hi
    have h1 := run_loadVar_agg (P := P) (w := w) (a := ⟨g, 0, none⟩) hu hi2 hi (fun j u hj => by rw [Addr.add_lit, hb.cell]; simpa using hj)
    unfold Res resRun
    simp only [ht, asAddr]
    simpa using h1

/-! ### copy into a block known whole -/
theorem run_copy_sl {P : Program} {w : World} (dT sT ty e : TypeId) {size : Nat} {g o dLen dCap : Nat} {t : TypeId} {cur : Array Value} {sv : Value} {n : Nat} {xs : List Value}
    (hu : P.underlying dT = some (.slice e)) (hs : (P.info? e).map (·.size) = some size) (hg : Blk w g t cur) (hsrc : Sl w e size sv n xs) (hn : n ≤ dLen) (hfit : o + xs.length ≤ cur.size) (h1 : ∀ v ∈ xs, v.oneCell' = true) :
    (Builtin.copy_ #[dT, sT] ty #[.slice (some ⟨g, o, none⟩) dLen dCap, sv]).run P w =
      .ok (goInt n) (w.setRow g (cur.toList.take o ++ xs ++ cur.toList.drop (o + xs.length)).toArray) := by
  have hmin : Nat.min n dLen = n := Nat.min_eq_left hn
  have hst := run_storeCells_at P g o t xs 0 cur w hg (by simpa using hfit) h1
  cases hq : P.info? e with
  | none => simp [hq] at hs
  | some i =>
    have hi : i.size = size := by simpa [hq] using hs
    rcases hsrc.2 with ⟨rfl, rfl⟩ | ⟨g', off, cap, cur', rfl, hh, hc, hm, hsz, ht⟩
    · have hx : xs = [] := List.eq_nil_of_length_eq_zero (by simpa using hsrc.1)
      subst hx
      simp only [List.append_nil, List.length_nil, Nat.add_zero, List.take_append_drop, Array.toArray_toList] at hst ⊢
      simp [Builtin.copy_, run_underlying hu, Builtin.lenOf, Builtin.firstCells, sizeOf, typeInfo, hq, hst]
    · have holds : ∀ j u, xs[j]? = some u → w.cell? ((⟨g', off, none⟩ : Addr).add j) = some u := fun j u hu => by
        rw [Addr.add_lit, cell_of_row w g' _ cur' e (0, 0) hh]
        rw [← ht, List.getElem?_take] at hu
        split at hu
        · rw [List.getElem?_drop, Array.getElem?_toList] at hu; exact hu
        · cases hu
      have hl := run_loadCells_list (P := P) w ⟨g', off, none⟩ xs holds
      simp [Builtin.copy_, run_underlying hu, Builtin.lenOf, Builtin.firstCells, sizeOf, typeInfo, hq, hi, hmin, ← hsrc.1, hl, hst]
theorem setRow_only (w : World) (g : Nat) (cs : Array Value) : Only [g] w (w.setRow g cs) :=
  ⟨rfl, rfl, rfl, by simp, fun k _ hk => setRow_other w g k _ (fun e => hk (by simp [e]))⟩
theorem wpList_copy_sl {P : Program} {w : World} {ops : Array Oper} {rest : List Oper} {o : Oper} {a : Act} {Q : Exit → Act → World → Prop} (hgd : o.guard = none) (d s : Operand) (dT sT : TypeId)
    (ho : o.op = .call { callee := .builtin .copy, args := #[d, s], argTypes := #[dT, sT] }) (e : TypeId) {size : Nat} {g off dLen dCap : Nat} {t : TypeId} {cur : Array Value} {sv : Value} {n : Nat} {xs : List Value}
    (hu : P.underlying dT = some (.slice e)) (hs : (P.info? e).map (·.size) = some size) (hd : a.eval d = .slice (some ⟨g, off, none⟩) dLen dCap) (hsv : a.eval s = sv) (hg : Blk w g t cur) (hsrc : Sl w e size sv n xs) (hn : n ≤ dLen) (hfit : off + xs.length ≤ cur.size) (h1 : ∀ v ∈ xs, v.oneCell' = true)
    (h : ∀ w', Blk w' g t (cur.toList.take off ++ xs ++ cur.toList.drop (off + xs.length)).toArray → Only [g] w w' → wpList P ops Q rest (a.put o.dst (.int .i64 n)) w') : wpList P ops Q (o :: rest) a w := by
  refine wpList_plain hgd fun K hK => ?_
  have hr := run_copy_sl (P := P) dT sT o.type e hu hs hg hsrc hn hfit h1 (dCap := dCap)
  unfold Oper.wp execOp
  simp only [ho, resolve, invoke, builtin, Sem.run_bind, Sem.run_pure, Result.andThen_ok, List.map_toArray, List.map_cons, List.map_nil, hd, hsv, hr]
  exact hK _ _ (h _ (setRow_heap w g cur _ t _ hg) (setRow_only w g _))
end Go.Fl
/-
  The last step of a law's row: where a call answers true and leaves every block that was there as it was, each argument reads behind the call as it read before.
-/
set_option linter.unusedSimpArgs false
set_option linter.unusedVariables false
namespace Go.Fl
open Go.RowKit Go.ChangeShapes Go.WideShapes Go.WideElems Go.Deep

section
variable {H : Type} {enc : TypeId × Value → H} {P : Program}
/-- Each of these types can be read. -/
def typesRead (P : Program) (ts : List TypeId) : Bool := ts.all fun t => P.readableRec t && decide (t < P.types.size)
theorem trodAll_lives (hl : laidOutB P = true) {W W' : World} {sp : Nat → Bool} :
    ∀ {ts : List TypeId} {vs : List Value} {ds : List (DataW H)} {ps : List MemPlace}, typesRead P ts = true → DataW.TrodAll enc P W 0 (fun _ => true) true ts vs ds ps → (∀ p ∈ ps, W.sameAt W' p) → (∀ p ∈ ps, sp p.block = true) → DataW.TrodAll enc P W' 0 sp true ts vs ds ps
  | [], vs, ds, ps, _, h, _, _ => by
    obtain ⟨rfl, rfl, rfl⟩ := trodAll_nil h
    rfl
  | t :: ts, vs, ds, ps, hr, h, h1, h2 => by
    obtain ⟨v, vs', d, ds', a, b, rfl, rfl, rfl, ha, hb⟩ := trodAll_cons h
    simp only [typesRead, List.all_cons, Bool.and_eq_true, decide_eq_true_eq] at hr
    exact ⟨a, b, Trod_stays hl hr.1.1 hr.1.2 ha (fun p hp => h1 p (List.mem_append_left _ hp)) (fun p hp => h2 p (List.mem_append_left _ hp)),
      trodAll_lives hl hr.2 hb (fun p hp => h1 p (List.mem_append_right _ hp)) (fun p hp => h2 p (List.mem_append_right _ hp)), rfl⟩

theorem law_post {f : Func} {s : ChangeSpec} {fresh apart : Bool} {W W' : World} {args : Array Value} {ds gs : List (DataW H)} {before : List MemPlace} {bt : TypeId} (hl : laidOutB P = true)
    (hpar : typesRead P f.params.toList = true) (hv : varsRowed P s.vars = true) (hrt : f.resultTypes = #[bt]) (hbt : P.underlying bt = some .bool)
    (hW : DataW.Whole enc P f.params.toList s.vars apart W args.toList ds gs before) (hs : s.fn H (ds ++ gs) = { results := [.lit (.bool true)], args := ds, vars := gs }) (hb : Below W.heap.size W W') :
    s.post enc P f apart fresh false false W args (.bool true) W' := by
  have hlt : ∀ p ∈ before, p.block < W.heap.size := fun p hp => hW.lt p hp
  obtain ⟨p, q, hA, hV, hpq, hz, hn⟩ := id hW
  subst hpq
  have hV' := hb.trodVars hl hv hV
  refine ⟨ds, gs, p ++ q, [], p, q, hW, ?_, ?_, ?_, World.keptBut_mono (fun x hx => ⟨hx, ?_⟩) (hb.frame (· ∈ p ++ q)), fun h => by cases h⟩
  · rw [hs, hrt]
    exact trodAll_cons_mk (shut_bool hbt true) trodAll_mk0
  · rw [hs]
    exact trodAll_lives hl hpar hA (fun x hx => hb.same (hlt x (List.mem_append_left _ hx))) (fun x hx => by simpa using hlt x (List.mem_append_left _ hx))
  · rw [hs]
    exact hV'
  · rcases List.mem_append.1 hx with h | h
    · exact .inr (.inl h)
    · exact .inr (.inr h)
end
end Go.Fl
/-
  Arguments opened: a slice of integers, or of structs whose fields are integers, told by its length and its numbers.
-/
set_option linter.unusedSimpArgs false
set_option linter.unusedVariables false
namespace Go.Fl
open Go.RowKit Go.ChangeShapes Go.WideShapes Go.Deep

/-- A slice of records of k integers each. -/
def Recs (w : World) (k : Nat) (v : Value) (n : Nat) (f : Nat → Nat → Int) : Prop :=
  ∃ a cap, v = .slice a n cap ∧ n ≤ cap ∧ cap ≤ maxLen ∧ (0 < n → ∃ g off, a = some ⟨g, off, none⟩ ∧ ∀ i j, i < n → j < k → w.cell? ⟨g, off + (i * k + j), none⟩ = some (.int .i64 (f i j)))
theorem cell_lt {w : World} {a : Addr} {v : Value} (h : w.cell? a = some v) : a.block < w.heap.size := by
  by_cases hn : a.block < w.heap.size
  · exact hn
  · have h0 : w.heap[a.block]? = none := Array.getElem?_eq_none (by omega)
    simp [World.cell?, h0] at h
section
variable {w w' : World} {k : Nat} {v : Value} {n : Nat} {f : Nat → Nat → Int}
theorem Recs.only (h : Recs w k v n f) (ho : Only [] w w') : Recs w' k v n f := by
  obtain ⟨a, cap, rfl, h1, h2, h3⟩ := h
  refine ⟨a, cap, rfl, h1, h2, fun hn => ?_⟩
  obtain ⟨g, off, rfl, hh⟩ := h3 hn
  refine ⟨g, off, rfl, fun i j hi hj => ?_⟩
  have h1 := hh i j hi hj
  exact (ho.cell (p := ⟨g, off + (i * k + j), none⟩) (cell_lt h1) (by simp)).trans h1
theorem Recs.shape (h : Recs w k v n f) : ∃ a cap, v = .slice a n cap ∧ n ≤ cap ∧ cap ≤ maxLen := by
  obtain ⟨a, cap, rfl, h1, h2, _⟩ := h
  exact ⟨a, cap, rfl, h1, h2⟩
theorem Recs.at_ (h : Recs w k v n f) {i : Nat} (hi : i < n) : ∃ g off cap, v = .slice (some ⟨g, off, none⟩) n cap ∧ n ≤ cap ∧ ∀ j, j < k → w.cell? ⟨g, off + (i * k + j), none⟩ = some (.int .i64 (f i j)) := by
  obtain ⟨a, cap, rfl, h1, h2, h3⟩ := h
  obtain ⟨g, off, rfl, hh⟩ := h3 (by omega)
  exact ⟨g, off, cap, rfl, h1, fun j hj => hh i j hi hj⟩
end

section
variable {H : Type} {enc : TypeId × Value → H} {P : Program} {w : World}
/-- Each cell of such a value is an integer. -/
def IntCells (enc : TypeId × Value → H) (P : Program) (w : World) (e : TypeId) (k : Nat) : Prop := ∀ fuel cs x, DataW.trod enc P w 0 (fun _ => true) true fuel e cs = some x → ∀ j, j < k → ∃ y, cs[j]? = some (.int .i64 y)
theorem intCells_one {e : TypeId} (he : P.underlying e = some (.int .i64)) : IntCells enc P w e 1 := fun fuel cs x h j hj => by
  obtain ⟨n, rfl, _, _⟩ := DataW.trod_int he h
  exact ⟨n, by cases j with | zero => rfl | succ j => omega⟩
theorem intCells_struct {e : TypeId} {fs : Array Field} (he : P.underlying e = some (.struct fs)) (hf : oneCellFields P fs = true) (hi : ∀ (j : Nat) (f : Field), fs[j]? = some f → P.underlying f.type = some (.int .i64)) : IntCells enc P w e fs.size := fun fuel cs x h j hj => by
  obtain ⟨xs, n, _, _, hlen, hxl, hat⟩ := DataW.trod_struct he h
  have hj' : fs[j]? = some fs[j] := Array.getElem?_eq_getElem hj
  obtain ⟨h1, h2⟩ := hone_of hf j _ hj'
  have h3 := hat j _ hj'
  rw [h1, h2] at h3
  have hx : xs[j]? = some (xs[j]'(by omega)) := List.getElem?_eq_getElem (by omega)
  obtain ⟨y, hy, _, _⟩ := DataW.trod_int (hi j _ hj') (h3.trans hx)
  refine ⟨y, ?_⟩
  have : (List.take 1 (List.drop j cs))[0]? = some (.int .i64 y) := by rw [hy]; rfl
  simpa using this
theorem open_recs {r : Reach} {b0 : Nat} {t e : TypeId} {k : Nat} {v : Value} {d : DataW H} {ps : List MemPlace} (ht : P.underlying t = some (.slice e)) (hk : P.cellsOf e = k) (hk0 : 0 < k) (he : IntCells enc P w e k)
    (hval : Value.okWide P w r b0 t v) (h : DataW.Trod enc P w 0 (fun _ => true) true t v d ps) : ∃ n f, Recs w k v n f := by
  obtain ⟨a, len, cap, rfl⟩ := okWide_slice ht hval
  obtain ⟨fuel, h⟩ := h
  rcases open_slice ht h with ⟨h0, _⟩ | ⟨a', len', cap', m, n, D, Pl, hcs, hb, hl, hm, hmm, hx, hi⟩
  · simp [Value.cells] at h0
    obtain ⟨rfl, rfl, rfl⟩ := h0
    exact ⟨0, fun _ _ => 0, none, 0, rfl, by simp, by simp, fun h => by omega⟩
  · simp [Value.cells] at hcs
    obtain ⟨rfl, rfl, rfl⟩ := hcs
    simp at hmm
    have hall : ∀ i j, i < len → j < k → ∃ y, w.cell? ((a'.add (i * k)).add j) = some (.int .i64 y) := fun i j hi1 hj => by
      obtain ⟨cs', hc, hd⟩ := hi i (by omega)
      rw [hk] at hc
      obtain ⟨_, _, hat⟩ := World.cells?_some hc
      obtain ⟨y, hy⟩ := he _ _ _ hd j hj
      exact ⟨y, (hat j hj).trans hy⟩
    refine ⟨len, fun i j => if hh : i < len ∧ j < k then (hall i j hh.1 hh.2).choose else 0, _, _, rfl, hl, hm, fun hn => ?_⟩
    obtain ⟨y, hy⟩ := hall 0 0 hn hk0
    have hsp : a'.spot = none := by
      have : w.cell? a' = some (.int .i64 y) := by simpa [Addr.add] using hy
      unfold World.cell? at this
      split at this
      · split at this
        · cases this
        · rename_i h; simpa using h
      · cases this
    obtain ⟨g, off, sp⟩ := a'
    simp only at hsp
    subst hsp
    refine ⟨g, off, rfl, fun i j hi1 hj => ?_⟩
    have hs := (hall i j hi1 hj).choose_spec
    simp only [hi1, hj, and_self, dif_pos]
    refine Eq.trans ?_ hs
    rw [Addr.add_lit, Addr.add_lit, Nat.add_assoc]
end
end Go.Fl
/-
  Arguments opened: a slice of texts or of integers, told by the list of what it holds.
-/
set_option linter.unusedSimpArgs false
set_option linter.unusedVariables false
namespace Go.Fl
open Go.RowKit Go.ChangeShapes Go.WideShapes Go.Deep

/-- A slice, each of whose elements fills one cell. -/
def Row {α : Type} (f : α → Value) (w : World) (v : Value) (l : List α) : Prop :=
  ∃ a cap, v = .slice a l.length cap ∧ l.length ≤ cap ∧ cap ≤ maxLen ∧ (0 < l.length → ∃ g off, a = some ⟨g, off, none⟩ ∧ g < w.heap.size ∧ ∀ i (h : i < l.length), w.cell? ⟨g, off + i, none⟩ = some (f l[i]))
section
variable {α : Type} {f : α → Value} {w w' : World} {v : Value} {l : List α}
theorem Row.only (h : Row f w v l) (ho : Only [] w w') : Row f w' v l := by
  obtain ⟨a, cap, rfl, h1, h2, h3⟩ := h
  refine ⟨a, cap, rfl, h1, h2, fun hn => ?_⟩
  obtain ⟨g, off, rfl, hg, hh⟩ := h3 hn
  exact ⟨g, off, rfl, Nat.lt_of_lt_of_le hg ho.size, fun i hi => (ho.cell (p := ⟨g, off + i, none⟩) hg (by simp)).trans (hh i hi)⟩
end
section
variable {H : Type} {enc : TypeId × Value → H} {P : Program} {w : World}
theorem list_of {α : Type} {p : Nat → α → Prop} : ∀ n, (∀ i, i < n → ∃ a, p i a) → ∃ l : List α, l.length = n ∧ ∀ i (h : i < l.length), p i l[i]
  | 0, _ => ⟨[], rfl, fun i h => by simp at h⟩
  | n + 1, h => by
    obtain ⟨l, hl, hp⟩ := list_of n fun i hi => h i (by omega)
    obtain ⟨a, ha⟩ := h n (by omega)
    refine ⟨l ++ [a], by simp [hl], fun i hi => ?_⟩
    by_cases h1 : i < l.length
    · rw [List.getElem_append_left h1]; exact hp i h1
    · have : i = l.length := by simp at hi; omega
      subst this
      simp [hl, ha]
theorem open_row {α : Type} {f : α → Value} {p : α → Prop} {r : Reach} {b0 : Nat} {t e : TypeId} {v : Value} {d : DataW H} {ps : List MemPlace} (ht : P.underlying t = some (.slice e)) (hk : P.cellsOf e = 1)
    (he : ∀ fuel cs x, DataW.trod enc P w 0 (fun _ => true) true fuel e cs = some x → ∃ y, cs = [f y] ∧ p y)
    (hval : Value.okWide P w r b0 t v) (h : DataW.Trod enc P w 0 (fun _ => true) true t v d ps) : ∃ l, Row f w v l ∧ ∀ i (h : i < l.length), p l[i] := by
  obtain ⟨a, len, cap, rfl⟩ := okWide_slice ht hval
  obtain ⟨fuel, h⟩ := h
  rcases open_slice ht h with ⟨h0, _⟩ | ⟨a', len', cap', m, n, D, Pl, hcs, hb, hl, hm, hmm, hx, hi⟩
  · simp [Value.cells] at h0
    obtain ⟨rfl, rfl, rfl⟩ := h0
    exact ⟨[], ⟨none, 0, rfl, by simp, by simp, fun h => by simp at h⟩, fun i h => by simp at h⟩
  · simp [Value.cells] at hcs
    obtain ⟨rfl, rfl, rfl⟩ := hcs
    simp at hmm
    have hall : ∀ i, i < len → ∃ y, w.cell? (a'.add i) = some (f y) ∧ p y := fun i hi1 => by
      obtain ⟨cs', hc, hd⟩ := hi i (by omega)
      rw [hk, Nat.mul_one] at hc
      obtain ⟨y, rfl, hy⟩ := he _ _ _ hd
      have := (World.cells?_some hc).2.2 0 (by omega)
      exact ⟨y, by simpa [Addr.add] using this, hy⟩
    obtain ⟨l, hll, hp⟩ := list_of (p := fun i y => w.cell? (a'.add i) = some (f y) ∧ p y) len hall
    subst hll
    refine ⟨l, ⟨_, _, rfl, hl, hm, fun hn => ?_⟩, fun i hi => (hp i hi).2⟩
    have h0 := (hp 0 hn).1
    have hsp : a'.spot = none := by
      have : w.cell? a' = some (f l[0]) := by simpa [Addr.add] using h0
      unfold World.cell? at this
      split at this
      · split at this
        · cases this
        · rename_i h; simpa using h
      · cases this
    obtain ⟨g, off, sp⟩ := a'
    simp only at hsp
    subst hsp
    refine ⟨g, off, rfl, cell_lt h0, fun i hi1 => ?_⟩
    refine Eq.trans ?_ (hp i hi1).1
    rw [Addr.add_lit]
theorem open_texts {r : Reach} {b0 : Nat} {t e : TypeId} {v : Value} {d : DataW H} {ps : List MemPlace} (ht : P.underlying t = some (.slice e)) (hk : P.cellsOf e = 1) (he : P.underlying e = some .string)
    (hval : Value.okWide P w r b0 t v) (h : DataW.Trod enc P w 0 (fun _ => true) true t v d ps) : ∃ l : List (List UInt8), Row (fun s => .string ⟨s.toArray⟩) w v l ∧ ∀ i (h : i < l.length), l[i].length ≤ maxLen :=
  open_row (f := fun s : List UInt8 => .string ⟨s.toArray⟩) (p := fun s => s.length ≤ maxLen) ht hk (fun fuel cs x hd => by
    obtain ⟨s, h1, _, h3⟩ := DataW.trod_string he hd
    exact ⟨s.data.toList, h1, h3⟩) hval h
theorem open_i64s {r : Reach} {b0 : Nat} {t e : TypeId} {v : Value} {d : DataW H} {ps : List MemPlace} (ht : P.underlying t = some (.slice e)) (hk : P.cellsOf e = 1) (he : P.underlying e = some (.int .i64))
    (hval : Value.okWide P w r b0 t v) (h : DataW.Trod enc P w 0 (fun _ => true) true t v d ps) : ∃ l : List Int, Row (fun s => .int .i64 s) w v l ∧ ∀ i (h : i < l.length), (Lit.int .i64 l[i]).wf = true :=
  open_row (f := fun s : Int => .int .i64 s) (p := fun s => (Lit.int .i64 s).wf = true) ht hk (fun fuel cs x hd => by
    obtain ⟨n, h1, _, h3⟩ := DataW.trod_int he hd
    exact ⟨n, h1, h3⟩) hval h
end
/-- append of such a slice. -/
theorem run_append_row {α : Type} {f : α → Value} {P : Program} {w : World} (t ty e : TypeId) (i : TypeInfo) (z : Value) (bytes : Nat) (ht : P.underlying t = some (.slice e)) (hi : P.info? e = some i) (hz : i.zero = some z)
    (hsize : i.size = 1) (hby : i.bytes = bytes) (hzs : z.cells.size = 1)
    {v : Value} {n : Nat} {xs : List Value} (hown : Sl w e 1 v n xs) {vx : Value} {l : List α} (hx : Row f w vx l) (h1 : ∀ u, (f u).oneCell' = true)
    (h63 : n + l.length ≤ maxLen) (hbytes : (n + l.length) * bytes ≤ 140737488355328) :
    ∃ v' w', (Builtin.append_ #[t, t] ty #[v, vx]).run P w = .ok v' w' ∧ Sl w' e 1 v' (n + l.length) (xs ++ l.map f) ∧ w.grownBy w' v.ownBlock ∧
      (v'.ownBlock = v.ownBlock ∨ v'.ownBlock = some w.heap.size) := by
  obtain ⟨ax, cx, rfl, hc, hm, hcell⟩ := hx
  rcases Nat.eq_zero_or_pos l.length with h0 | h0
  · obtain rfl : l = [] := List.length_eq_zero_iff.1 h0
    cases ax with
    | none =>
      refine ⟨v, w, ?_, by simpa using hown, ⟨rfl, rfl, rfl, Nat.le_refl _, fun _ _ _ => rfl⟩, .inl rfl⟩
      obtain ⟨a, c, rfl, hc, ha⟩ := hown.shape
      cases a <;> simp [Builtin.append_, run_underlying ht, sizeOf, typeInfo, hi, Builtin.lenOf, hc, Builtin.firstCells, storeCells]
    | some ad => exact run_append_sl t ty e i z 1 bytes ht hi hz hsize hby hzs (by omega) hown ad 0 cx [] rfl (fun j u hu => by simp at hu) (fun u hu => by simp at hu) h63 hbytes
  · obtain ⟨g, off, rfl, hg, hcc⟩ := hcell h0
    exact run_append_sl t ty e i z 1 bytes ht hi hz hsize hby hzs (by omega) hown ⟨g, off, none⟩ l.length cx (l.map f) (by simp) (fun j u hu => by
      rw [List.getElem?_map] at hu
      by_cases hj : j < l.length
      · rw [List.getElem?_eq_getElem hj] at hu
        injection hu with hu
        rw [Addr.add_lit, hcc j hj, hu]
      · rw [List.getElem?_eq_none (by omega)] at hu; cases hu) (fun u hu => by obtain ⟨y, _, rfl⟩ := List.mem_map.1 hu; exact h1 y) h63 hbytes
theorem wpList_append_row {α : Type} {f : α → Value} {P : Program} {w : World} {ops : Array Oper} {rest : List Oper} {o : Oper} {a : Act} {Q : Exit → Act → World → Prop} (hgd : o.guard = none) (s x : Operand) (t : TypeId)
    (ho : o.op = .call { callee := .builtin .append, args := #[s, x], argTypes := #[t, t] })
    (e : TypeId) (i : TypeInfo) (z : Value) (bytes : Nat) (ht : P.underlying t = some (.slice e)) (hi : P.info? e = some i) (hz : i.zero = some z)
    (hsize : i.size = 1) (hby : i.bytes = bytes) (hzs : z.cells.size = 1)
    {v : Value} {n : Nat} {xs : List Value} (hs : a.eval s = v) (hown : Sl w e 1 v n xs)
    {vx : Value} {l : List α} (hx : a.eval x = vx) (hxs : Row f w vx l) (h1 : ∀ u, (f u).oneCell' = true)
    (h63 : n + l.length ≤ maxLen) (hbytes : (n + l.length) * bytes ≤ 140737488355328)
    (h : ∀ v' w', Sl w' e 1 v' (n + l.length) (xs ++ l.map f) → w.grownBy w' v.ownBlock → (v'.ownBlock = v.ownBlock ∨ v'.ownBlock = some w.heap.size) → wpList P ops Q rest (a.put o.dst v') w') : wpList P ops Q (o :: rest) a w := by
  refine wpList_plain hgd fun K hK => ?_
  obtain ⟨v', w', hr, h2, h3, h4⟩ := run_append_row (P := P) t o.type e i z bytes ht hi hz hsize hby hzs hown hxs h1 h63 hbytes
  unfold Oper.wp execOp
  simp only [ho, resolve, invoke, builtin, Sem.run_bind, Sem.run_pure, Result.andThen_ok, List.map_toArray, List.map_cons, List.map_nil, hs, hx, hr]
  exact hK _ _ (h v' w' h2 h3 h4)
end Go.Fl
/-
  append onto a slice that has room; clear of a slice's tail; the front of a slice.
-/
set_option linter.unusedSimpArgs false
set_option linter.unusedVariables false
namespace Go.Fl
open Go.RowKit

section
variable {P : Program} {w : World} {e : TypeId} {size : Nat} {n : Nat} {xs : List Value}

/-- The front of a slice, its room kept or cut. -/
theorem Sl.front {a : Option Addr} {cap cap2 k : Nat} (h : Sl w e size (.slice a n cap) n xs) (hk : k ≤ n) (h1 : k ≤ cap2) (h2 : cap2 ≤ cap) : Sl w e size (.slice a k cap2) k (xs.take (k * size)) := by
  have hm := Nat.mul_le_mul_right size hk
  refine ⟨by rw [List.length_take, h.1]; omega, ?_⟩
  rcases h.2 with ⟨hv, rfl⟩ | ⟨g, off, cap', cur, hv, hh, hc, hmx, hs, ht⟩
  · injection hv with e1 _ e3
    subst e1; subst e3
    obtain rfl : k = 0 := by omega
    obtain rfl : cap2 = 0 := by omega
    exact .inl ⟨rfl, rfl⟩
  · injection hv with e1 _ e3
    subst e1; subst e3
    have h3 := Nat.mul_le_mul_right size h2
    exact .inr ⟨g, off, cap2, cur, rfl, hh, h1, by omega, by omega, by rw [← ht, List.take_take]; congr 1; omega⟩

theorem run_append_room_sl (t ty : TypeId) (i : TypeInfo) (ht : P.underlying t = some (.slice e)) (hi : P.info? e = some i) (hsize : i.size = size)
    {g off cap : Nat} (hown : Sl w e size (.slice (some ⟨g, off, none⟩) n cap) n xs) {vx : Value} {m : Nat} {news : List Value} (hx : Sl w e size vx m news) (h1 : ∀ u ∈ news, u.oneCell' = true) (hroom : n + m ≤ cap) :
    ∃ w', (Builtin.append_ #[t, t] ty #[.slice (some ⟨g, off, none⟩) n cap, vx]).run P w = .ok (.slice (some ⟨g, off, none⟩) (n + m) cap) w' ∧ Sl w' e size (.slice (some ⟨g, off, none⟩) (n + m) cap) (n + m) (xs ++ news) ∧ Only [g] w w' := by
  rcases hown.2 with ⟨hv, _⟩ | ⟨g', off', cap', cur, hv, hh, hc, hm, hs, htake⟩
  · cases hv
  injection hv with e1 _ e3
  simp only [Option.some.injEq, Addr.mk.injEq, and_true] at e1
  obtain ⟨rfl, rfl⟩ := e1
  subst e3
  rcases hx.2 with ⟨rfl, rfl⟩ | ⟨gx, offx, cx, curx, rfl, hhx, _⟩
  · have hnw : news = [] := List.eq_nil_of_length_eq_zero (by simpa using hx.1)
    subst hnw
    refine ⟨w, ?_, by simpa using hown, Only.refl _ _⟩
    simp [Builtin.append_, run_underlying ht, sizeOf, typeInfo, hi, Builtin.lenOf, hc, Builtin.firstCells, storeCells]
  · have hmul : n * size + m * size ≤ cap * size := by rw [← Nat.add_mul]; exact Nat.mul_le_mul_right _ hroom
    have hl := hx.1
    subst hsize
    have hr := run_append_room_off (P := P) (w := w) t ty e i ht hi g off n cap cur hh ⟨gx, offx, none⟩ m cx news hl (Sl.cells_ hx) h1 hroom (by omega)
    refine ⟨_, hr, ⟨?_, .inr ⟨g, off, cap, _, rfl, setRow_heap w g cur _ e _ hh, hroom, hm, ?_, ?_⟩⟩, ⟨rfl, rfl, rfl, by simp, fun k _ hk => setRow_other w g k _ (fun e => hk (by simp [e]))⟩⟩
    · rw [List.length_append, hown.1, hl, Nat.add_mul]
    · simp only [List.size_toArray, List.length_append, List.length_take, List.length_drop, Array.length_toList]
      omega
    · have hlen : (cur.toList.take (off + n * i.size)).length = off + n * i.size := by rw [List.length_take, Array.length_toList]; omega
      simp only [List.append_assoc]
      rw [List.drop_append_of_le_length (by omega), List.drop_take]
      have e1 : off + n * i.size - off = n * i.size := by omega
      rw [e1, htake]
      rw [← List.append_assoc]
      have hx : (xs ++ news).length = (n + m) * i.size := by rw [List.length_append, hown.1, hl, Nat.add_mul]
      rw [← hx]
      exact List.take_left
theorem wpList_append_room {ops : Array Oper} {rest : List Oper} {o : Oper} {a : Act} {Q : Exit → Act → World → Prop} (hgd : o.guard = none) (s x : Operand) (t : TypeId)
    (ho : o.op = .call { callee := .builtin .append, args := #[s, x], argTypes := #[t, t] })
    (e : TypeId) (i : TypeInfo) (size : Nat) (ht : P.underlying t = some (.slice e)) (hi : P.info? e = some i) (hsize : i.size = size)
    {g off cap n : Nat} {xs : List Value} (hs : a.eval s = .slice (some ⟨g, off, none⟩) n cap) (hown : Sl w e size (.slice (some ⟨g, off, none⟩) n cap) n xs)
    {vx : Value} {m : Nat} {news : List Value} (hx : a.eval x = vx) (hxs : Sl w e size vx m news) (h1 : ∀ u ∈ news, u.oneCell' = true) (hroom : n + m ≤ cap)
    (h : ∀ w', Sl w' e size (.slice (some ⟨g, off, none⟩) (n + m) cap) (n + m) (xs ++ news) → Only [g] w w' → wpList P ops Q rest (a.put o.dst (.slice (some ⟨g, off, none⟩) (n + m) cap)) w') : wpList P ops Q (o :: rest) a w := by
  refine wpList_plain hgd fun K hK => ?_
  obtain ⟨w', hr, h2, h3⟩ := run_append_room_sl (P := P) t o.type i ht hi hsize hown hxs h1 hroom
  unfold Oper.wp execOp
  simp only [ho, resolve, invoke, builtin, Sem.run_bind, Sem.run_pure, Result.andThen_ok, List.map_toArray, List.map_cons, List.map_nil, hs, hx, hr]
  exact hK _ _ (h w' h2 h3)

/-- 'clear' of what lies behind a slice. -/
theorem run_clear_tail (t ty : TypeId) (i : TypeInfo) (z : Value) (ht : P.underlying t = some (.slice e)) (hi : P.info? e = some i) (hz : i.zero = some z)
    {g off cap m c : Nat} (hown : Sl w e size (.slice (some ⟨g, off, none⟩) n cap) n xs) (zs : List Value) (hzs : (Builtin.zeroCells z.cells (m + 1)).toList = zs) (hzl : zs.length = (m + 1) * size) (h1 : ∀ u ∈ zs, u.oneCell' = true) (hroom : n + (m + 1) ≤ cap) :
    ∃ w', (Builtin.clear_ #[t] ty #[.slice (some ⟨g, off + n * size, none⟩) (m + 1 : Nat) c]).run P w = .ok (.tuple #[]) w' ∧ Sl w' e size (.slice (some ⟨g, off, none⟩) n cap) n xs ∧ Only [g] w w' := by
  rcases hown.2 with ⟨hv, _⟩ | ⟨g', off', cap', cur, hv, hh, hc, hm, hs, htake⟩
  · cases hv
  injection hv with e1 _ e3
  simp only [Option.some.injEq, Addr.mk.injEq, and_true] at e1
  obtain ⟨rfl, rfl⟩ := e1
  subst e3
  have hmul : n * size + (m + 1) * size ≤ cap * size := by rw [← Nat.add_mul]; exact Nat.mul_le_mul_right _ hroom
  have hzv : (zeroValue e).run P w = .ok z w := by simp [zeroValue, typeInfo, hi, hz]
  have hst := run_storeCells_at P g (off + n * size) e zs 0 cur w hh (by rw [hzl]; omega) h1
  simp only [Nat.add_zero] at hst
  refine ⟨w.setRow g (cur.toList.take (off + n * size) ++ zs ++ cur.toList.drop (off + n * size + zs.length)).toArray, ?_, ⟨hown.1, .inr ⟨g, off, cap, _, rfl, setRow_heap w g cur _ e _ hh, hc, hm, ?_, ?_⟩⟩, ⟨rfl, rfl, rfl, by simp, fun k _ hk => setRow_other w g k _ (fun e => hk (by simp [e]))⟩⟩
  · simp only [Builtin.clear_, List.getElem?_toArray, List.getElem?_cons_zero, Sem.run_bind, run_underlying ht, Result.andThen_ok, hzv, hzs, hst, Sem.run_pure]
  · simp only [List.size_toArray, List.length_append, List.length_take, List.length_drop, Array.length_toList, hzl]
    omega
  · have hlen : (cur.toList.take (off + n * size)).length = off + n * size := by rw [List.length_take, Array.length_toList]; omega
    simp only [List.append_assoc]
    rw [List.drop_append_of_le_length (by omega), List.drop_take]
    have e1 : off + n * size - off = n * size := by omega
    rw [e1, htake, ← hown.1]
    exact List.take_left
theorem wpList_clear_tail {ops : Array Oper} {rest : List Oper} {o : Oper} {a : Act} {Q : Exit → Act → World → Prop} (hgd : o.guard = none) (s : Operand) (t : TypeId)
    (ho : o.op = .call { callee := .builtin .clear, args := #[s], argTypes := #[t] }) (e : TypeId) (i : TypeInfo) (z : Value) (size : Nat) (ht : P.underlying t = some (.slice e)) (hi : P.info? e = some i) (hz : i.zero = some z)
    {g off cap n c k : Nat} {xs : List Value} (m : Nat) (hkm : k = m + 1) (hown : Sl w e size (.slice (some ⟨g, off, none⟩) n cap) n xs) (hs : a.eval s = .slice (some ⟨g, off + n * size, none⟩) k c) (zs : List Value) (hzs : (Builtin.zeroCells z.cells (m + 1)).toList = zs) (hzl : zs.length = (m + 1) * size) (h1 : ∀ u ∈ zs, u.oneCell' = true) (hroom : n + (m + 1) ≤ cap)
    (h : ∀ w', Sl w' e size (.slice (some ⟨g, off, none⟩) n cap) n xs → Only [g] w w' → wpList P ops Q rest (a.put o.dst (.tuple #[])) w') : wpList P ops Q (o :: rest) a w := by
  subst hkm
  refine wpList_plain hgd fun K hK => ?_
  obtain ⟨w', hr, h2, h3⟩ := run_clear_tail (P := P) (c := c) t o.type i z ht hi hz hown zs hzs hzl h1 hroom
  unfold Oper.wp execOp
  simp only [ho, resolve, invoke, builtin, Sem.run_bind, Sem.run_pure, Result.andThen_ok, List.map_toArray, List.map_cons, List.map_nil, hs, hr]
  exact hK _ _ (h w' h2 h3)
/-- In a region that is walked operation by operation. -/
theorem step_append_sls {ops : Array Oper} {o : Oper} {a : Act} {K : Act → World → Prop} {Q : Exit → Act → World → Prop} {E : Prop} (hgd : o.guard = none) (s x : Operand) (t : TypeId)
    (ho : o.op = .call { callee := .builtin .append, args := #[s, x], argTypes := #[t, t] })
    (e : TypeId) (i : TypeInfo) (z : Value) (size bytes : Nat) (ht : P.underlying t = some (.slice e)) (hi : P.info? e = some i) (hz : i.zero = some z)
    (hsize : i.size = size) (hby : i.bytes = bytes) (hzs : z.cells.size = size) (hsz : 0 < size)
    {v : Value} {n : Nat} {xs : List Value} (hs : a.eval s = v) (hown : Sl w e size v n xs)
    {vx : Value} {m : Nat} {news : List Value} (hx : a.eval x = vx) (hxs : Sl w e size vx m news) (h1 : ∀ u ∈ news, u.oneCell' = true)
    (h63 : n + m ≤ maxLen) (hbytes : (n + m) * bytes ≤ 140737488355328)
    (h : ∀ v' w', Sl w' e size v' (n + m) (xs ++ news) → w.grownBy w' v.ownBlock → (v'.ownBlock = v.ownBlock ∨ v'.ownBlock = some w.heap.size) → K (a.put o.dst v') w') :
    if Region.wanted o (yielded ops a.tmps) = true then Oper.wp P o a w K Q else E := by
  have hw : Region.wanted o (yielded ops a.tmps) = true := by simp [Region.wanted, hgd]
  rw [if_pos hw]
  obtain ⟨v', w', hr, h2, h3, h4⟩ := run_append_sls (P := P) t o.type e i z size bytes ht hi hz hsize hby hzs hsz hown hxs h1 h63 hbytes
  unfold Oper.wp execOp
  simp only [ho, resolve, invoke, builtin, Sem.run_bind, Sem.run_pure, Result.andThen_ok, List.map_toArray, List.map_cons, List.map_nil, hs, hx, hr]
  exact h v' w' h2 h3 h4
/-- A struct stored into a block known whole. -/
theorem wpList_store_blk {ops : Array Oper} {rest : List Oper} {o : Oper} {a : Act} {Q : Exit → Act → World → Prop} (hgd : o.guard = none) (ty : TypeId) (x y : Operand) (ho : o.op = .store ty x y)
    {g k : Nat} {t : TypeId} {cs : Array Value} (us : List Value) (hx : a.eval x = .pointer (some ⟨g, k, none⟩)) (hy : a.eval y = .agg us.toArray) (hB : Blk w g t cs) (hi : (P.info? ty).map (·.size) = some us.length) (hfit : k + us.length ≤ cs.size) (h1 : ∀ u ∈ us, u.oneCell' = true)
    (h : ∀ w', Blk w' g t (cs.toList.take k ++ us ++ cs.toList.drop (k + us.length)).toArray → Only [g] w w' → wpList P ops Q rest (a.put o.dst undef) w') : wpList P ops Q (o :: rest) a w := by
  refine wpList_plain hgd fun K hK => ?_
  have hst := run_storeCells_at P g k t us 0 cs w hB (by simpa using hfit) h1
  simp only [Nat.add_zero] at hst
  cases hq : P.info? ty with
  | none => simp [hq] at hi
  | some i =>
    have hs : i.size = us.length := by simpa [hq] using hi
    have hsv : (storeVar ty ⟨g, k, none⟩ (.agg us.toArray)).run P w = .ok () (w.setRow g (cs.toList.take k ++ us ++ cs.toList.drop (k + us.length)).toArray) := by
      simp [storeVar, sizeOf, typeInfo, hq, Value.cells, hs, hst]
    unfold Oper.wp execOp
    simp only [ho, hx, hy, Instr.storeAt, Instr.sureAddr, Sem.run_bind, Sem.run_pure, Result.andThen_ok, hsv]
    exact hK _ _ (h _ (setRow_heap w g cs _ t _ hB) ⟨rfl, rfl, rfl, by simp, fun k _ hk => setRow_other w g k _ (fun e => hk (by simp [e]))⟩)
end
end Go.Fl
