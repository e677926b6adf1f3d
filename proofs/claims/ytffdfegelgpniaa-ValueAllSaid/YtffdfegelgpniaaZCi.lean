/-
  The book of values: Apart.
-/
import Derived.Test.YtffdfegelgpniaaZCg
set_option linter.unusedSimpArgs false
set_option linter.unusedVariables false
set_option linter.unusedSimpArgs false
set_option linter.unusedVariables false
namespace Go.Proofs.Ytffdfegelgpniaa
open Go.Fl Go.RowKit

/-- The world below which all stays, and one of which all but the book's types stays. -/
structure WW where
  lo : World
  at0 : World
structure OT (W : WW) (w : World) : Prop where
  only : Only [] W.lo w
  ty : ∀ g t cur, Blk W.at0 g t cur → t = 53 ∨ t = 28 ∨ t = 5 → w.heap[g]? = W.at0.heap[g]?
theorem OT.begin {W w : World} (ho : Only [] W w) : OT ⟨W, w⟩ w := ⟨ho, fun _ _ _ _ _ => rfl⟩
theorem OT.only0 {W : WW} {w w' : World} (h : OT W w) (ho : Only [] w w') : OT W w' :=
  ⟨h.only.trans ho, fun g t cur hb ht => (ho.block g (show Blk w g t cur from (h.ty g t cur hb ht).trans hb).lt (by simp)).trans (h.ty g t cur hb ht)⟩
theorem OT.step {W : WW} {w w' : World} (h : OT W w) (ho : Only [] W.lo w') (hk : ∀ g t cur, Blk w g t cur → t ≠ 33 → t ≠ 31 → w'.heap[g]? = w.heap[g]?) : OT W w' :=
  ⟨ho, fun g t cur hb ht => (hk g t cur ((h.ty g t cur hb ht).trans hb) (by rcases ht with rfl | rfl | rfl <;> decide) (by rcases ht with rfl | rfl | rfl <;> decide)).trans (h.ty g t cur hb ht)⟩
structure EK (W : WW) (w : World) (r gb ob cb : Nat) (ents : List Value) (P : Nat → Nat → List Value → Prop) : Prop where
  rge : W.lo.heap.size ≤ r
  gge : W.lo.heap.size ≤ gb
  blk : Blk w r 27 #[.slice (some ⟨gb, ob, none⟩) ents.length cb]
  sl : Sl w 31 1 (.slice (some ⟨gb, ob, none⟩) ents.length cb) ents.length ents
  ent : ∀ (j : Nat) (h : j < ents.length), ∃ g off n cap xs, ents[j] = .slice (some ⟨g, off, none⟩) n cap ∧ W.lo.heap.size ≤ g ∧ n ≤ 80000 ∧ Sl w 33 5 (.slice (some ⟨g, off, none⟩) n cap) n xs ∧ P j n xs
  apart : ∀ (i j : Nat) (hi : i < ents.length) (hj : j < ents.length), i < j → ents[i].ownBlock ≠ ents[j].ownBlock
  ot : OT W w
section
variable {W : WW} {w w' : World} {r gb ob cb : Nat} {ents : List Value} {P P' : Nat → Nat → List Value → Prop}
theorem EK.only (h : EK W w r gb ob cb ents P) : Only [] W.lo w := h.ot.only
theorem EK.mono (h : EK W w r gb ob cb ents P) (hP : ∀ j n xs, j < ents.length → P j n xs → P' j n xs) : EK W w r gb ob cb ents P' :=
  ⟨h.rge, h.gge, h.blk, h.sl, fun j hj => by
    obtain ⟨g, off, n, cap, xs, h1, h2, h3, h4, h5⟩ := h.ent j hj
    exact ⟨g, off, n, cap, xs, h1, h2, h3, h4, hP j n xs hj h5⟩, h.apart, h.ot⟩
theorem EK.mono2 (h : EK W w r gb ob cb ents P) (hP : ∀ j n xs (hj : j < ents.length), (∃ g off cap, ents[j] = .slice (some ⟨g, off, none⟩) n cap) → xs.length = n * 5 → P j n xs → P' j n xs) : EK W w r gb ob cb ents P' :=
  ⟨h.rge, h.gge, h.blk, h.sl, fun j hj => by
    obtain ⟨g, off, n, cap, xs, h1, h2, h3, h4, h5⟩ := h.ent j hj
    exact ⟨g, off, n, cap, xs, h1, h2, h3, h4, hP j n xs hj ⟨g, off, cap, h1⟩ h4.len h5⟩, h.apart, h.ot⟩
theorem EK.only0 (h : EK W w r gb ob cb ents P) (ho : Only [] w w') : EK W w' r gb ob cb ents P :=
  ⟨h.rge, h.gge, h.blk.only ho (by simp), h.sl.only ho (fun _ _ => by simp), fun j hj => by
    obtain ⟨g, off, n, cap, xs, h1, h2, h3, h4, h5⟩ := h.ent j hj
    exact ⟨g, off, n, cap, xs, h1, h2, h3, h4.only ho (fun _ _ => by simp), h5⟩, h.apart, h.ot.only0 ho⟩
theorem apart' (h : EK W w r gb ob cb ents P) {i j : Nat} (hi : i < ents.length) (hj : j < ents.length) (hij : i ≠ j) : ents[i].ownBlock ≠ ents[j].ownBlock := by
  rcases Nat.lt_or_gt_of_ne hij with h1 | h1
  · exact h.apart i j hi hj h1
  · exact fun e => h.apart j i hj hi h1 e.symm
/-- One of the lists has been appended to, and laid back. -/
theorem EK.grow {w7 : World} {i g off n cap : Nat} {xs new : List Value} {v7 : Value} (h : EK W w r gb ob cb ents P) (hi : i < ents.length) (he : ents[i] = .slice (some ⟨g, off, none⟩) n cap) (hn : n + 1 ≤ 80000)
    (hS : Sl w7 33 5 v7 (n + 1) (xs ++ new)) (hg : w.grownBy w7 (some g)) (hat : v7.ownBlock = some g ∨ v7.ownBlock = some w.heap.size)
    (hP : ∀ j n xs, j < ents.length → j ≠ i → P j n xs → P' j n xs) (hPi : P' i (n + 1) (xs ++ new)) : EK W (w7.setCell ⟨gb, ob + i, none⟩ v7) r gb ob cb (ents.set i v7) P' := by
  obtain ⟨gi, offi, ni, capi, xsi, e1, hgi, _, hsi, _⟩ := h.ent i hi
  rw [he] at e1
  injection e1 with e1 e2 e3
  injection e1 with e1
  injection e1 with e1 e4
  subst e1
  subst e2
  subst e3
  subst e4
  obtain ⟨ci, hbi⟩ := Sl.blk hsi (g := g) rfl
  obtain ⟨cb', hbb⟩ := Sl.blk h.sl (g := gb) rfl
  have hgr : g ≠ r := Blk.ne_ hbi h.blk (by decide)
  have hgb : g ≠ gb := Blk.ne_ hbi hbb (by decide)
  have hrb : r ≠ gb := Blk.ne_ h.blk hbb (by decide)
  have h7 : ∀ k, k < w.heap.size → k ≠ g → w7.heap[k]? = w.heap[k]? := fun k hk hne => hg.block k hk fun e => hne (by injection e)
  have hlt7 : ∀ g', v7.ownBlock = some g' → g' = g ∨ g' = w.heap.size := fun g' e => by
    rcases hat with e2 | e2
    · rw [e2] at e; injection e with e; exact .inl e.symm
    · rw [e2] at e; injection e with e; exact .inr e.symm
  have hr7 : Blk w7 r 27 #[.slice (some ⟨gb, ob, none⟩) ents.length cb] := (h7 r h.blk.lt fun e => hgr e.symm).trans h.blk
  have hs7 : Sl w7 31 1 (.slice (some ⟨gb, ob, none⟩) ents.length cb) ents.length ents := h.sl.keep fun g' hg' => by
    have : gb = g' := by simpa [Value.ownBlock] using hg'
    subst this
    exact h7 gb hbb.lt fun e => hgb e.symm
  have hv : ∃ g2 off2 cap2, v7 = .slice (some ⟨g2, off2, none⟩) (n + 1) cap2 := by
    obtain ⟨g2, off2, cap2, e, _⟩ := hS.form (by omega)
    exact ⟨g2, off2, cap2, e⟩
  obtain ⟨g2, off2, cap2, rfl⟩ := hv
  have hg2 := hlt7 g2 rfl
  have h2b : g2 ≠ gb := by
    have := hbb.lt
    rcases hg2 with e | e
    · rw [e]; exact hgb
    · omega
  refine ⟨h.rge, h.gge, ?_, ?_, fun j hj => ?_, fun a b ha hb hab => ?_, ?_⟩
  · rw [List.length_set]
    exact hr7.far (show r ≠ gb from hrb) _
  · rw [List.length_set]
    exact Sl.set1 hs7 hi _
  · have hj' : j < ents.length := by simpa using hj
    by_cases hji : j = i
    · subst hji
      exact ⟨g2, off2, n + 1, cap2, xs ++ new, by simp, by rcases hg2 with e | e <;> first | omega | (have := h.only.size; omega), hn, hS.far (by simpa [Value.ownBlock] using h2b) _, hPi⟩
    · obtain ⟨gj, offj, nj, capj, xsj, q1, q2, q3, q4, q5⟩ := h.ent j hj'
      have hne : gj ≠ g := fun e => apart' h hj' hi hji (by rw [q1, he, e]; rfl)
      obtain ⟨cj, hbj⟩ := Sl.blk q4 (g := gj) rfl
      refine ⟨gj, offj, nj, capj, xsj, by rw [List.getElem_set_ne (fun e => hji e.symm)]; exact q1, q2, q3, (q4.keep fun g' hg' => ?_).far (by
        have := Blk.ne_ hbj hbb (by decide)
        simpa [Value.ownBlock] using this) _, hP j nj xsj hj' hji q5⟩
      have : gj = g' := by simpa [Value.ownBlock] using hg'
      subst this
      exact h7 gj hbj.lt hne
  · have ha' : a < ents.length := by simpa using ha
    have hb' : b < ents.length := by simpa using hb
    have key : ∀ (c : Nat) (hc : c < ents.length), c ≠ i → ents[c].ownBlock ≠ some g2 := fun c hc hci e => by
      obtain ⟨gj, offj, nj, capj, xsj, q1, q2, q3, q4, q5⟩ := h.ent c hc
      rcases hg2 with e2 | e2
      · subst e2
        exact apart' h hc hi hci (by rw [e, he]; rfl)
      · rw [q1] at e
        have e3 : gj = g2 := by simpa [Value.ownBlock] using e
        have := q4.lt gj rfl
        omega
    by_cases hai : a = i
    · subst hai
      rw [List.getElem_set_self, List.getElem_set_ne (by omega)]
      exact fun e => key b hb' (by omega) e.symm
    · rw [List.getElem_set_ne (fun e => hai e.symm)]
      by_cases hbi2 : b = i
      · subst hbi2
        rw [List.getElem_set_self]
        exact key a ha' hai
      · rw [List.getElem_set_ne (fun e => hbi2 e.symm)]
        exact h.apart a b ha' hb' hab
  · refine h.ot.step ((h.only.grown hg fun k hk => by injection hk with hk; subst hk; exact .inr hgi).setCell (.inr h.gge) _) fun g' t' cur' hb' h33 h31 => ?_
    have n1 : g' ≠ g := Blk.ne_ hb' hbi h33
    have n2 : g' ≠ gb := Blk.ne_ hb' hbb h31
    exact (Below.heap_setCell w7 _ _ g' (show g' ≠ gb from n2)).trans (h7 g' hb'.lt n1)
theorem EK.after {w7 : World} {i g off n cap : Nat} (h : EK W w r gb ob cb ents P) (hi : i < ents.length) (he : ents[i] = .slice (some ⟨g, off, none⟩) n cap) (hg : w.grownBy w7 (some g)) :
    Blk w7 r 27 #[.slice (some ⟨gb, ob, none⟩) ents.length cb] ∧ Sl w7 31 1 (.slice (some ⟨gb, ob, none⟩) ents.length cb) ents.length ents := by
  obtain ⟨gi, offi, ni, capi, xsi, e1, hgi, _, hsi, _⟩ := h.ent i hi
  rw [he] at e1
  injection e1 with e1 e2 e3
  injection e1 with e1
  injection e1 with e1 e4
  subst e1
  obtain ⟨ci, hbi⟩ := Sl.blk hsi (g := g) rfl
  obtain ⟨cb', hbb⟩ := Sl.blk h.sl (g := gb) rfl
  have hgr : g ≠ r := Blk.ne_ hbi h.blk (by decide)
  have hgb : g ≠ gb := Blk.ne_ hbi hbb (by decide)
  have h7 : ∀ k, k < w.heap.size → k ≠ g → w7.heap[k]? = w.heap[k]? := fun k hk hne => hg.block k hk fun e => hne (by injection e)
  exact ⟨(h7 r h.blk.lt fun e => hgr e.symm).trans h.blk, h.sl.keep fun g' hg' => by
    have : gb = g' := by simpa [Value.ownBlock] using hg'
    subst this
    exact h7 gb hbb.lt fun e => hgb e.symm⟩
theorem row_set {cur : List Value} {off m N : Nat} {us xs : List Value} (hx : (cur.drop off).take N = xs) (hN : off + N ≤ cur.length) (hm : m + us.length ≤ N) :
    ((cur.take (off + m) ++ us ++ cur.drop (off + m + us.length)).drop off).take N = xs.take m ++ us ++ xs.drop (m + us.length) := by
  obtain ⟨A, X, C, rfl, hA, hX⟩ : ∃ A X C, cur = A ++ (X ++ C) ∧ A.length = off ∧ X.length = N := ⟨cur.take off, (cur.drop off).take N, (cur.drop off).drop N, by rw [List.take_append_drop, List.take_append_drop], by simp; omega, by simp; omega⟩
  subst hA
  rw [List.drop_left, List.take_left' hX] at hx
  subst hx
  have e1 : (A ++ (X ++ C)).take (A.length + m) = A ++ X.take m := by rw [List.take_length_add_append, List.take_append_of_le_length (by omega)]
  have e2 : (A ++ (X ++ C)).drop (A.length + m + us.length) = X.drop (m + us.length) ++ C := by rw [Nat.add_assoc, List.drop_length_add_append, List.drop_append_of_le_length (by omega)]
  rw [e1, e2, show A ++ X.take m ++ us ++ (X.drop (m + us.length) ++ C) = A ++ ((X.take m ++ us ++ X.drop (m + us.length)) ++ C) by simp only [List.append_assoc], List.drop_left]
  exact List.take_left' (by simp; omega)
end

abbrev mark (j : Nat) : List Value := [.int .i64 (-9), .int .i64 j, .float .f64 0, .string ⟨#[]⟩, .slice none 0 0]
def marks (j n : Nat) : List Value := (List.replicate n (mark j)).flatten
theorem marks_succ (j n : Nat) : marks j (n + 1) = marks j n ++ mark j := by
  unfold marks
  rw [List.replicate_succ', List.flatten_append]
  simp
theorem marks_len (j n : Nat) : (marks j n).length = n * 5 := by
  induction n with
  | zero => rfl
  | succ n ih => rw [marks_succ, List.length_append, ih]; simp; omega
theorem marks_at (j : Nat) : ∀ (n k c : Nat), k < n → c < 5 → (marks j n)[k * 5 + c]? = (mark j)[c]?
  | 0, k, c, hk, _ => by omega
  | n + 1, k, c, hk, hc => by
    have hl := marks_len j n
    rw [marks_succ]
    by_cases h : k < n
    · rw [List.getElem?_append_left (by omega)]
      exact marks_at j n k c h hc
    · have : k = n := by omega
      subst this
      rw [List.getElem?_append_right (by omega), hl, Nat.add_sub_cancel_left]
section
variable {W : WW} {w w' : World} {r gb ob cb : Nat} {ents : List Value} {P P' : Nat → Nat → List Value → Prop}
/-- A value has been written into one of the lists. -/
theorem EK.put {w7 : World} {i g off n cap k : Nat} {xs us : List Value} {cur : Array Value} (h : EK W w r gb ob cb ents P) (hi : i < ents.length) (he : ents[i] = .slice (some ⟨g, off, none⟩) n cap) (hS : Sl w 33 5 (.slice (some ⟨g, off, none⟩) n cap) n xs)
    (hk : k < n) (hu : us.length = 5) (hc : Blk w g 33 cur) (hB : Blk w7 g 33 (cur.toList.take (off + k * 5) ++ us ++ cur.toList.drop (off + k * 5 + us.length)).toArray) (hO : Only [g] w w7)
    (hP : ∀ j n xs, j < ents.length → j ≠ i → P j n xs → P' j n xs) (hPi : P' i n (xs.take (k * 5) ++ us ++ xs.drop (k * 5 + 5))) : EK W w7 r gb ob cb ents P' := by
  obtain ⟨gi, offi, ni, capi, xsi, e1, hgi, hn8, _, _⟩ := h.ent i hi
  rw [he] at e1
  injection e1 with e1 e2 e3
  injection e1 with e1
  injection e1 with e1 e4
  subst e1
  subst e2
  subst e3
  subst e4
  obtain ⟨cb', hbb⟩ := Sl.blk h.sl (g := gb) rfl
  have hgr : g ≠ r := Blk.ne_ hc h.blk (by decide)
  have hgb : g ≠ gb := Blk.ne_ hc hbb (by decide)
  refine ⟨h.rge, h.gge, h.blk.only hO (by simpa using hgr.symm), h.sl.only hO (fun g' hg' hm => ?_), fun j hj => ?_, h.apart, h.ot.step (h.only.trans' hO fun g' hg' => .inr (by simp at hg'; omega)) fun g' t' cur' hb' h33 _ => hO.block g' hb'.lt (by simpa using Blk.ne_ hb' hc h33)⟩
  · have h1 : gb = g' := by simpa [Value.ownBlock] using hg'
    simp at hm
    omega
  · by_cases hji : j = i
    · subst hji
      refine ⟨g, off, n, cap, _, he, hgi, hn8, ?_, hPi⟩
      refine ⟨by
        have := hS.len
        simp [hu]
        omega, ?_⟩
      rcases hS.2 with ⟨hv, _⟩ | ⟨g', off', cap', cur', hv, hh, q1, q2, q3, q4⟩
      · cases hv
      · injection hv with e1 _ e3
        injection e1 with e1
        injection e1 with e1 e2
        subst e1
        subst e2
        subst e3
        have hcc : cur' = cur := by
          have : some (Obj.cells cur' 33 (0, 0)) = some (Obj.cells cur 33 (0, 0)) := hh.symm.trans hc
          injection this with this
          injection this
        subst hcc
        have hcl : cur'.toList.length = cur'.size := Array.length_toList
        refine .inr ⟨g, off, cap, _, rfl, hB, q1, q2, ?_, ?_⟩
        · simp [hu]
          omega
        · have := row_set (cur := cur'.toList) (off := off) (m := k * 5) (N := n * 5) (us := us) q4 (by omega) (by omega)
          rw [hu] at this ⊢
          exact this
    · obtain ⟨gj, offj, nj, capj, xsj, q1, q2, q3, q4, q5⟩ := h.ent j hj
      have hne : gj ≠ g := fun e => apart' h hj hi hji (by rw [q1, he, e]; rfl)
      exact ⟨gj, offj, nj, capj, xsj, q1, q2, q3, q4.only hO (fun g' hg' hm => by
        have h1 : gj = g' := by simpa [Value.ownBlock] using hg'
        simp at hm
        omega), hP j nj xsj hj hji q5⟩
end
/-- A flag that is laid, set and read in any order. -/
structure RB (w0 a b : World) : Prop where
  only : ∀ g, g < w0.heap.size → b.heap[g]? = a.heap[g]?
  os : b.os = a.os
  tape : b.tape = a.tape
  output : b.output = a.output
  size : a.heap.size ≤ b.heap.size
  flag : ∀ g u, w0.heap.size ≤ g → Blk a g 4 #[.bool u] → ∃ u', Blk b g 4 #[.bool u']
theorem RB.refl {w0 : World} (a : World) : RB w0 a a := ⟨fun _ _ => rfl, rfl, rfl, rfl, Nat.le_refl _, fun _ u _ h => ⟨u, h⟩⟩
theorem RB.trans {w0 a b c : World} (h : RB w0 a b) (k : RB w0 b c) : RB w0 a c :=
  ⟨fun g hg => (k.only g hg).trans (h.only g hg), k.os.trans h.os, k.tape.trans h.tape, k.output.trans h.output, Nat.le_trans h.size k.size, fun g u hg hb => by
    obtain ⟨u1, h1⟩ := h.flag g u hg hb
    exact k.flag g u1 hg h1⟩
theorem RB.toOnly {w0 b : World} (h : RB w0 w0 b) : Only [] w0 b := ⟨h.os, h.tape, h.output, h.size, fun g hg _ => h.only g hg⟩
theorem RB.set {w0 a : World} {g : Nat} {u : Bool} (hg : w0.heap.size ≤ g) (hb : Blk a g 4 #[.bool u]) (u2 : Bool) : RB w0 a (a.setCell ⟨g, 0, none⟩ (.bool u2)) :=
  ⟨fun k hk => Below.heap_setCell a _ _ k (show k ≠ g by omega), rfl, rfl, rfl, by simp, fun k u3 hk hk2 => by
    by_cases e : k = g
    · subst e
      exact ⟨u2, hk2.set_ 0 _⟩
    · exact ⟨u3, hk2.far (show k ≠ g from e) _⟩⟩
theorem RB.new {w0 a : World} (h : w0.heap.size ≤ a.heap.size) (o : Obj) : RB w0 a (a.alloc o) :=
  ⟨fun k hk => Below.heap_alloc a o k (by omega), rfl, rfl, rfl, by simp, fun k u hk hk2 => ⟨u, hk2.alloc o⟩⟩
def lenAt (w : World) (g o : Nat) : Nat := match w.cell? ⟨g, o, none⟩ with
  | some (.slice _ n _) => n
  | _ => 0
theorem lenAt_of {w : World} {g o n cap : Nat} {a : Option Addr} (h : w.cell? ⟨g, o, none⟩ = some (.slice a n cap)) : lenAt w g o = n := by
  unfold lenAt
  rw [h]
theorem EK.lenAt {W : WW} {w : World} {r gb ob cb : Nat} {ents : List Value} {P : Nat → Nat → List Value → Prop} (h : EK W w r gb ob cb ents P) {i n cap : Nat} {a : Option Addr} (hi : i < ents.length) (he : ents[i] = .slice a n cap) : lenAt w gb (ob + i) = n := by
  obtain ⟨_, _, _, ee, _, _, _, hcell, _⟩ := h.sl.form (by omega)
  injection ee with ea _ ec
  injection ea with ea
  injection ea with ea eb
  subst ea
  subst eb
  have h1 := hcell i (by omega)
  rw [List.getElem?_eq_getElem hi, he] at h1
  exact lenAt_of h1
def FPhi (w0 : World) : Nat → Value → World → Prop
  | 0, v, w => ∃ g u, v = .pointer (some ⟨g, 0, none⟩) ∧ w0.heap.size ≤ g ∧ Blk w g 4 #[.bool u]
  | 3, v, _ => ∃ u, v = .bool u
  | _, _, _ => True
theorem F_st {w0 : World} (i : Nat) (v : Value) (w w' : World) (h : FPhi w0 i v w) (k : RB w0 w w') : FPhi w0 i v w' := by
  match i, h with
  | 0, h =>
    obtain ⟨g, u, h1, h2, h3⟩ := h
    obtain ⟨u', h4⟩ := k.flag g u h2 h3
    exact ⟨g, u', h1, h2, h4⟩
  | 1, _ => trivial
  | 2, _ => trivial
  | 3, h => exact h
  | n + 4, _ => trivial
def P1 (i : Nat) : Nat → Nat → List Value → Prop := fun j n xs => (j < i → xs = marks j n) ∧ (i ≤ j → n ≤ 65536)
def P2 (i lim : Nat) : Nat → Nat → List Value → Prop := fun j n xs => (j < i → xs = marks j n) ∧ (i < j → n ≤ 65536) ∧ (j = i → n ≤ lim)
def P3 (i k : Nat) : Nat → Nat → List Value → Prop := fun j n xs => (j < i → xs = marks j n) ∧ (i < j → n ≤ 65536) ∧ (j = i → k ≤ n ∧ xs.take (k * 5) = marks i k)
theorem sl_one5 {w : World} {g : Nat} {xs : List Value} (h : Blk w g 33 xs.toArray) (hx : xs.length = 5) : Sl w 33 5 (.slice (some ⟨g, 0, none⟩) 1 1) 1 xs :=
  ⟨by omega, .inr ⟨g, 0, 1, xs.toArray, rfl, h, Nat.le_refl _, by decide, by simp; omega, by simp only [List.drop_zero]; exact List.take_of_length_le (by omega)⟩⟩
set_option maxRecDepth 100000 in
set_option maxHeartbeats 6400000 in
theorem apart_ok {W : WW} {w : World} {r gb ob cb : Nat} {ents : List Value} (h : EK W w r gb ob cb ents (P1 0)) : Calls Try.prog 17 #[.pointer (some ⟨r, 0, none⟩)] w fun e w' => e = .returned (.bool true) ∧ OT W w' := by
  obtain ⟨j33, si, sz0, sz1, sz2⟩ := info_parts info33
  have H := Lib.hid h
  obtain ⟨M, hM⟩ : ∃ M, M = ents.length := ⟨_, rfl⟩
  have hM20 : M ≤ maxLen := by
    rcases h.sl.2 with ⟨hv, _⟩ | ⟨g', off', cap', cur, hv, hh, q1, q2, _⟩
    · cases hv
    · omega
  unfold maxLen at hM20
  have HM := Lib.hid hM
  clear h hM
  go_enter Try.func17, Try.ntmps17
  go_wp2
  go_loopw [3] (fun z wr => ∃ (i : Nat) (en : List Value), i ≤ M ∧ z = .int .i64 i ∧ en.length = M ∧ Hid (EK W wr r gb ob cb en (P1 i))) (fun z _ => M - (intOf z).toNat)
  case atStart => exact ⟨0, ents, Nat.zero_le _, rfl, HM.out.symm, H⟩
  case round =>
    obtain ⟨i, en, hi, rfl, hen, HE⟩ := hrel
    have r0 := HE.out.blk.cell 0
    have rf0 := HE.out.blk.frozen 0
    have rl0 := HE.out.blk.lt
    simp at r0
    rw [hen] at r0
    by_cases hiM : i < M
    · have hiz : (i : Int) < (M : Int) := by omega
      obtain ⟨g, off, n, cap, xs, e1, hg, hn, hS, hP⟩ := HE.out.ent i (by omega)
      have hb := HE.out.sl.form (by omega)
      obtain ⟨_, _, _, ee, hgbl, _, _, hcell, hfr⟩ := hb
      injection ee with ea _ ec
      injection ea with ea
      injection ea with ea eb
      subst ea
      subst eb
      subst ec
      have b0 := hcell i (by omega)
      rw [List.getElem?_eq_getElem (by omega)] at b0
      have bf0 := hfr (ob + i)
      clear hcell hfr
      rw [e1] at b0
      have hn65 := hP.2 (Nat.le_refl _)
      have HQ := Lib.hid (fun w' => room_ok w' n cap (by omega))
      go_wp2
      refine Lex.wp_region_text (by kernel_rfl) (by kernel_rfl) ?_
      go_wp2_with fail
      refine (HQ.out _).mono ?_
      rintro e w2 ⟨rfl, rfl⟩
      go_wp2
      refine Lex.sq_done (by rfl) ?_
      go_wp2
      have hlim : min cap (n + 5000) ≤ 70536 := by omega
      generalize min cap (n + 5000) = lim at *
      obtain ⟨wo, hwo⟩ : ∃ x : World, x = wr := ⟨_, rfl⟩
      subst hwo
      go_loopw [] (fun wr2 => ∃ en2 : List Value, en2.length = M ∧ Hid (EK W wr2 r gb ob cb en2 (P2 i 70536))) (fun wr2 => lim - lenAt wr2 gb (ob + i))
      case atStart =>
        exact ⟨en, hen, Lib.hid ((HE.out.only0 (Only.refl _ _).drew).mono fun j n' xs' hj hp => ⟨hp.1, fun h => hp.2 (by omega), fun h => by have := hp.2 (by omega); omega⟩)⟩
      case round =>
        obtain ⟨en2, hen2, HE2⟩ := hrel
        clear r0 rf0 rl0 b0 bf0 e1 hg hn hS hP hn65 hgbl
        have r0 := HE2.out.blk.cell 0
        have rf0 := HE2.out.blk.frozen 0
        have rl0 := HE2.out.blk.lt
        simp at r0
        rw [hen2] at r0
        obtain ⟨g, off, n, cap, xs, e1, hg, hn, hS, hP⟩ := HE2.out.ent i (by omega)
        have hb := HE2.out.sl.form (by omega)
        obtain ⟨_, _, _, ee, hgbl, _, _, hcell, hfr⟩ := hb
        injection ee with ea _ ec
        injection ea with ea
        injection ea with ea eb
        subst ea
        subst eb
        subst ec
        have b0 := hcell i (by omega)
        rw [List.getElem?_eq_getElem (by omega)] at b0
        have bf0 := hfr (ob + i)
        clear hcell hfr
        rw [e1] at b0
        by_cases hnl : n < lim
        · have hnz : (n : Int) < (lim : Int) := by omega
          have hn7 := hP.2.2 rfl
          go_wp2
          refine Lex.wp_region_each (by kernel_rfl) [[], [0], [0], [0]] (by kernel_rfl) (by rfl) (RB wr) RB.refl (fun _ _ _ => RB.trans) (FPhi wr) (fun i v w w' h k => F_st i v w w' h k) ?_ ?_
          · intro q o ho w8 hR
            have HR := Lib.hid hR
            have hsz8 : wr.heap.size ≤ w8.heap.size := hR.size
            clear hR r0 rf0 rl0 b0 bf0
            rcases q with _ | _ | _ | _ | q
            · injection ho with ho
              subst ho
              show wpList _ _ _ _ _ _
              go_wp2
              exact ⟨⟨w8.heap.size, false, rfl, hsz8, Blk.new _ _ _⟩, RB.new hsz8 _, rfl⟩
            · injection ho with ho
              subst ho
              intro v hv
              obtain ⟨gf, u, rfl, hgf, hbf⟩ := hv
              have z0 := hbf.cell 0
              have zf := hbf.frozen 0
              have zl := hbf.lt
              simp at z0
              have HX := Lib.hid (RB.set hgf hbf true)
              clear hbf
              simp only [Lex.dstOf, List.getElem?_cons_zero, List.getElem?_cons_succ, Option.bind_some]
              show wpList _ _ _ _ _ _
              go_wp2
              exact ⟨trivial, HX.out, rfl⟩
            · injection ho with ho
              subst ho
              intro v hv
              obtain ⟨gf, u, rfl, hgf, hbf⟩ := hv
              have z0 := hbf.cell 0
              have zf := hbf.frozen 0
              have zl := hbf.lt
              simp at z0
              have HX := Lib.hid (RB.set hgf hbf false)
              clear hbf
              simp only [Lex.dstOf, List.getElem?_cons_zero, List.getElem?_cons_succ, Option.bind_some]
              show wpList _ _ _ _ _ _
              go_wp2
              exact ⟨trivial, HX.out, rfl⟩
            · injection ho with ho
              subst ho
              intro v hv
              obtain ⟨gf, u, rfl, hgf, hbf⟩ := hv
              have z0 := hbf.cell 0
              simp at z0
              clear hbf
              simp only [Lex.dstOf, List.getElem?_cons_zero, List.getElem?_cons_succ, Option.bind_some]
              show wpList _ _ _ _ _ _
              go_wp2
              exact ⟨⟨u, rfl⟩, RB.refl _, rfl⟩
            · cases ho
          · intro w8 hR
            have ho8 : Only [] wr w8 := (Only.refl [] wr).drew.trans ⟨hR.os, hR.tape, hR.output, hR.size, fun g hg _ => hR.only g hg⟩
            have HE8 := Lib.hid (HE2.out.only0 ho8)
            have hS8 := hS.only ho8 (fun _ _ => by simp)
            have HLA := Lib.hid (lenAt_of b0)
            clear hR ho8 r0 rf0 rl0 b0 bf0 hgbl
            show ∀ v0, _ → ∀ v1, _ → ∀ v2, _ → ∀ v3, _ → Exit.then _ _ _ _ _
            intro v0 _ v1 _ v2 _ v3 h3
            obtain ⟨u, rfl⟩ := h3
            simp only [Lex.dstOf, List.getElem?_cons_zero, List.getElem?_cons_succ, Option.bind_some]
            have hen8 := hen2
            have r0 := HE8.out.blk.cell 0
            have rf0 := HE8.out.blk.frozen 0
            have rl0 := HE8.out.blk.lt
            simp at r0
            rw [hen2] at r0
            have hb := HE8.out.sl.form (by omega)
            obtain ⟨_, _, _, ee, hgbl, _, _, hcell, hfr⟩ := hb
            injection ee with ea _ ec
            injection ea with ea
            injection ea with ea eb
            subst ea
            subst eb
            subst ec
            have b0 := hcell i (by omega)
            rw [List.getElem?_eq_getElem (by omega)] at b0
            have bf0 := hfr (ob + i)
            clear hcell hfr
            rw [e1] at b0
            cases u with
            | true =>
              go_wp2_with (at_builtin; refine wpList_append_one (news := zeroV) rfl (.tmp 52) (.tmp 55) 31 rfl 33 j33 _ 5 64 Try.underlying31 si sz0 sz1 sz2 rfl (by decide) rfl (hS8.alloc _) rfl (Blk.new _ _ _) rfl (by simp [Value.oneCell']) (by unfold maxLen; omega) (by omega) ?_)
              intro v7 w7 hS7 hg7 hat7
              obtain ⟨g7, o7, c7, hv7, _⟩ := hS7.form (by omega)
              subst hv7
              have hEa := HE8.out.only0 ((Only.refl _ _).alloc (.cells zeroV.toArray 33))
              have hEB := hEa.after (by omega) e1 hg7
              have HE3 := Lib.hid (hEa.grow (P' := P2 i 70536) (new := zeroV) (by omega) e1 (by omega) hS7 hg7 (by simpa [Value.ownBlock] using hat7) (fun j n' xs' hj hne hp => hp) ⟨fun h => absurd h (Nat.lt_irrefl _), fun h => absurd h (Nat.lt_irrefl _), fun _ => by omega⟩)
              have u0 := hEB.1.cell 0
              have uf0 := hEB.1.frozen 0
              have ul0 := hEB.1.lt
              simp at u0
              rw [hen2] at u0
              have hbx := hEB.2.form (by omega)
              obtain ⟨_, _, _, ee, ugl, _, _, hcell, hfr⟩ := hbx
              injection ee with ea _ ec
              injection ea with ea
              injection ea with ea eb
              subst ea
              subst eb
              subst ec
              have ub0 := hcell i (by omega)
              rw [List.getElem?_eq_getElem (by omega), e1] at ub0
              have ubf := hfr (ob + i)
              have HLB := Lib.hid (HE3.out.lenAt (i := i) (by simp; omega) (List.getElem_set_self _))
              clear hcell hfr hEa hEB hg7 hat7
              obtain ⟨cur7, hc7⟩ := Sl.blk hS7 (g := g7) rfl
              have hne7 : g7 ≠ gb := by
                obtain ⟨cc, hcc⟩ := Sl.blk HE3.out.sl (g := gb) rfl
                intro e
                subst e
                obtain ⟨c2, hc2⟩ : ∃ c2, Blk (w7.setCell ⟨g7, ob + i, none⟩ (.slice (some ⟨g7, o7, none⟩) (n + 1) c7)) g7 33 c2 := ⟨_, hc7.set_ _ _⟩
                exact Blk.ne_ hcc hc2 (by decide) rfl
              have hc8 : Blk (w7.setCell ⟨gb, ob + i, none⟩ (.slice (some ⟨g7, o7, none⟩) (n + 1) c7)) g7 33 cur7 := hc7.far hne7 _
              have hS8' := hS7.far (p := ⟨gb, ob + i, none⟩) (by simpa [Value.ownBlock] using hne7) (.slice (some ⟨g7, o7, none⟩) (n + 1) c7)
              have hfit : o7 + n * 5 + 5 ≤ cur7.size := by
                rcases hS7.2 with ⟨hv, _⟩ | ⟨g', off', cap', cur', hv, hh, q1, q2, q3, q4⟩
                · cases hv
                · injection hv with e1 _ e3
                  injection e1 with e1
                  injection e1 with e1 e2
                  subst e1
                  subst e2
                  subst e3
                  have hcc : cur' = cur7 := by
                    have : some (Obj.cells cur' 33 (0, 0)) = some (Obj.cells cur7 33 (0, 0)) := hh.symm.trans hc7
                    injection this with this
                    injection this
                  subst hcc
                  omega
              clear hS7 hc7
              go_wp2_with (refine wpList_store_blk rfl 33 (.tmp 58) (.tmp 53) rfl zeroV rfl rfl hc8 (by kernel_rfl) hfit (by simp [Value.oneCell']) ?_)
              intro w10 hB10 hO10
              have he3 : (en2.set i (.slice (some ⟨g7, o7, none⟩) (n + 1) c7))[i]'(by simp; omega) = .slice (some ⟨g7, o7, none⟩) (n + 1) c7 := List.getElem_set_self _
              have HE10 := Lib.hid (HE3.out.put (P' := P2 i 70536) (k := n) (by simp; omega) he3 hS8' (by omega) (us := zeroV) rfl hc8 (by rw [List.append_assoc]; exact hB10) hO10 (fun j n' xs' hj hne hp => hp) ⟨fun h => absurd h (Nat.lt_irrefl _), fun h => absurd h (Nat.lt_irrefl _), fun _ => by omega⟩)
              have HM10 := Lib.hid (show lim - lenAt w10 gb (ob + i) < lim - lenAt wr gb (ob + i) by rw [HE10.out.lenAt (by simp; omega) he3, HLA.out]; omega)
              clear hB10 hO10 hS8' hc8
              go_wp2
              go_roundw
              case measure => exact HM10.out
              case rel => exact ⟨_, by simp; omega, HE10⟩
            | false =>
              go_wp2
              go_region_law (first
                | (refine step_append_sls rfl (.tmp 70) (.tmp 72) 31 rfl 33 j33 _ 5 64 Try.underlying31 si sz0 sz1 sz2 rfl (by decide) rfl (hS8.drew.alloc _) rfl (sl_one5 (Blk.new _ _ _) rfl) (by simp [Value.oneCell']) (by unfold maxLen; omega) (by omega) ?_
                   intro v7 w7 hS7 hg7 hat7
                   obtain ⟨g7, o7, c7, hv7, _⟩ := hS7.form (by omega)
                   subst hv7
                   have hEa := HE8.out.only0 ((Only.refl _ _).drew.alloc (.cells zeroV.toArray 33))
                   have hEB := hEa.after (by omega) e1 hg7
                   have HE3 := Lib.hid (hEa.grow (P' := P2 i 70536) (new := zeroV) (by omega) e1 (by omega) hS7 hg7 hat7 (fun j n' xs' hj hne hp => hp) ⟨fun h => absurd h (Nat.lt_irrefl _), fun h => absurd h (Nat.lt_irrefl _), fun _ => by omega⟩)
                   have u0 := hEB.1.cell 0
                   have uf0 := hEB.1.frozen 0
                   have ul0 := hEB.1.lt
                   simp at u0
                   rw [hen2] at u0
                   have hbx := hEB.2.form (by omega)
                   obtain ⟨_, _, _, ee, ugl, _, _, hcell, hfr⟩ := hbx
                   injection ee with ea _ ec
                   injection ea with ea
                   injection ea with ea eb
                   subst ea
                   subst eb
                   subst ec
                   have ub0 := hcell i (by omega)
                   rw [List.getElem?_eq_getElem (by omega), e1] at ub0
                   have ubf := hfr (ob + i)
                   have HLB := Lib.hid (HE3.out.lenAt (i := i) (by simp; omega) (List.getElem_set_self _))
                   clear hcell hfr hEa hEB hg7 hat7
                   clear hS7))
              all_goals
                have HM10 := Lib.hid (show lim - lenAt (w7.setCell ⟨gb, ob + i, none⟩ (.slice (some ⟨g7, o7, none⟩) (n + 1) c7)) gb (ob + i) < lim - lenAt wr gb (ob + i) by rw [HLB.out, HLA.out]; omega)
                go_wp2
                go_roundw
                case measure => exact HM10.out
                case rel => exact ⟨_, by simp; omega, HE3⟩
        · have hnz : ¬ (n : Int) < (lim : Int) := by omega
          obtain ⟨wp, hwp⟩ : ∃ x : World, x = wr := ⟨_, rfl⟩
          subst hwp
          have hn8 : n ≤ 80000 := hn
          go_wp2
          go_loopw [5] (fun z wr => ∃ k : Nat, k ≤ n ∧ z = .int .i64 k ∧ Hid (EK W wr r gb ob cb en2 (P3 i k))) (fun z _ => n - (intOf z).toNat)
          case atStart =>
            exact ⟨0, Nat.zero_le _, rfl, Lib.hid (HE2.out.mono fun j n' xs' hj hp => ⟨hp.1, hp.2.1, fun _ => ⟨Nat.zero_le _, by simp [marks]⟩⟩)⟩
          case round =>
            obtain ⟨k, hk, rfl, HE3⟩ := hrel
            clear r0 rf0 rl0 b0 bf0 hg hn hS hP hgbl
            have r0 := HE3.out.blk.cell 0
            have rf0 := HE3.out.blk.frozen 0
            have rl0 := HE3.out.blk.lt
            simp at r0
            rw [hen2] at r0
            obtain ⟨g', off', n', cap', xs3, e3, hg, hn, hS3, hP3⟩ := HE3.out.ent i (by omega)
            rw [e1] at e3
            injection e3 with e3 e4 e5
            injection e3 with e3
            injection e3 with e3 e6
            subst e3
            subst e4
            subst e5
            subst e6
            have hb := HE3.out.sl.form (by omega)
            obtain ⟨_, _, _, ee, hgbl, _, _, hcell, hfr⟩ := hb
            injection ee with ea _ ec
            injection ea with ea
            injection ea with ea eb
            subst ea
            subst eb
            subst ec
            have b0 := hcell i (by omega)
            rw [List.getElem?_eq_getElem (by omega)] at b0
            have bf0 := hfr (ob + i)
            clear hcell hfr
            rw [e1] at b0
            by_cases hkn : k < n
            · have hkz : (k : Int) < (n : Int) := by omega
              obtain ⟨cur, hc⟩ := Sl.blk hS3 (g := g) rfl
              have hfit : off + k * 5 + 5 ≤ cur.size := by
                rcases hS3.2 with ⟨hv, _⟩ | ⟨g', off', cap', cur', hv, hh, q1, q2, q3, q4⟩
                · cases hv
                · injection hv with e1 _ e3
                  injection e1 with e1
                  injection e1 with e1 e2
                  subst e1
                  subst e2
                  subst e3
                  have hcc : cur' = cur := by
                    have : some (Obj.cells cur' 33 (0, 0)) = some (Obj.cells cur 33 (0, 0)) := hh.symm.trans hc
                    injection this with this
                    injection this
                  subst hcc
                  omega
              go_wp2_with (refine wpList_store_blk rfl 33 (.tmp 97) (.tmp 96) rfl (mark i) rfl rfl hc (by kernel_rfl) hfit (by simp [Value.oneCell']) ?_)
              intro w10 hB10 hO10
              have hlen3 := hS3.len
              have HE10 := Lib.hid (HE3.out.put (P' := P3 i (k + 1)) (k := k) (by omega) e1 hS3 hkn (us := mark i) rfl hc (by rw [List.append_assoc]; exact hB10) hO10 (fun j n' xs' hj hne hp => ⟨hp.1, hp.2.1, fun e => absurd e hne⟩) ⟨fun h => absurd h (Nat.lt_irrefl _), fun h => absurd h (Nat.lt_irrefl _), fun _ => ⟨hkn, by
                have hm := (hP3.2.2 rfl).2
                rw [hm, marks_succ, List.append_assoc, show (k + 1) * 5 = (marks i k).length + 5 by rw [marks_len]; omega, List.take_length_add_append]
                rfl⟩⟩)
              clear hB10 hO10 hc hS3 hP3
              go_wp2
              go_roundw
              case measure => simp [intOf]; omega
              case rel => exact ⟨k + 1, by omega, by go_num, HE10⟩
            · obtain rfl : k = n := by omega
              have HEN := Lib.hid (show EK W wr r gb ob cb en2 (P1 (i + 1)) from HE3.out.mono2 fun j n' xs' hj hex hxl hp => ⟨fun hji => by
                by_cases hji2 : j = i
                · subst hji2
                  obtain ⟨ga, oa, ca, hga⟩ := hex
                  rw [e1] at hga
                  injection hga with _ hga _
                  subst hga
                  have hm := (hp.2.2 rfl).2
                  rwa [List.take_of_length_le (by omega)] at hm
                · exact hp.1 (by omega), fun h => hp.2.1 (by omega)⟩)
              go_wp2
              go_roundw
              case measure => simp [intOf]; omega
              case rel => exact ⟨i + 1, en2, by omega, by go_num, hen2, HEN⟩
    · obtain rfl : i = M := by omega
      obtain ⟨wp, hwp⟩ : ∃ x : World, x = wr := ⟨_, rfl⟩
      subst hwp
      have HEM := HE
      go_wp2
      go_loopw [6] (fun z wr => ∃ i : Nat, i ≤ en.length ∧ z = .int .i64 i ∧ Hid (EK W wr r gb ob cb en (P1 en.length))) (fun z _ => en.length - (intOf z).toNat)
      case atStart => exact ⟨0, Nat.zero_le _, rfl, Lib.hid (by rw [hen]; exact HEM.out)⟩
      case round =>
        obtain ⟨i, hi, rfl, HE⟩ := hrel
        clear r0 rf0 rl0
        have r0 := HE.out.blk.cell 0
        have rf0 := HE.out.blk.frozen 0
        have rl0 := HE.out.blk.lt
        simp at r0
        by_cases hiM : i < en.length
        · have hiz : (i : Int) < (en.length : Int) := by omega
          obtain ⟨g, off, n, cap, xs, e1, hg, hn, hS, hP⟩ := HE.out.ent i (by omega)
          have hxs := hP.1 hiM
          subst hxs
          have hb := HE.out.sl.form (by omega)
          obtain ⟨_, _, _, ee, hgbl, _, _, hcell, hfr⟩ := hb
          injection ee with ea _ ec
          injection ea with ea
          injection ea with ea eb
          subst ea
          subst eb
          subst ec
          have b0 := hcell i (by omega)
          rw [List.getElem?_eq_getElem (by omega)] at b0
          have bf0 := hfr (ob + i)
          clear hcell hfr
          rw [e1] at b0
          obtain ⟨wq, hwq⟩ : ∃ x : World, x = wr := ⟨_, rfl⟩
          subst hwq
          go_wp2
          go_loopw [7] (fun z wr => ∃ k : Nat, k ≤ n ∧ z = .int .i64 k ∧ Hid (Only [] wq wr)) (fun z _ => n - (intOf z).toNat)
          case atStart => exact ⟨0, Nat.zero_le _, rfl, Lib.hid (Only.refl _ _)⟩
          case round =>
            obtain ⟨k, hk, rfl, HO⟩ := hrel
            have HE5 := Lib.hid (HE.out.only0 HO.out)
            clear r0 rf0 rl0 b0 bf0 hgbl
            have r0 := HE5.out.blk.cell 0
            have rf0 := HE5.out.blk.frozen 0
            have rl0 := HE5.out.blk.lt
            simp at r0
            have hb := HE5.out.sl.form (by omega)
            obtain ⟨_, _, _, ee, hgbl, _, _, hcell, hfr⟩ := hb
            injection ee with ea _ ec
            injection ea with ea
            injection ea with ea eb
            subst ea
            subst eb
            subst ec
            have b0 := hcell i (by omega)
            rw [List.getElem?_eq_getElem (by omega)] at b0
            have bf0 := hfr (ob + i)
            clear hcell hfr
            rw [e1] at b0
            by_cases hkn : k < n
            · have hkz : (k : Int) < (n : Int) := by omega
              have hS5 := hS.only HO.out (fun _ _ => by simp)
              obtain ⟨_, _, _, ee, _, _, _, hcell, _⟩ := hS5.form (by omega)
              injection ee with ea _ ec
              injection ea with ea
              injection ea with ea eb
              subst ea
              subst eb
              subst ec
              have m0 : wr.cell? ⟨g, off + k * 5, none⟩ = some (.int .i64 (-9)) := by
                have := hcell (k * 5 + 0) (by omega)
                rw [marks_at i n k 0 hkn (by omega)] at this
                exact this
              have m1 : wr.cell? ⟨g, off + k * 5 + 1, none⟩ = some (.int .i64 i) := by
                have := hcell (k * 5 + 1) (by omega)
                rw [marks_at i n k 1 hkn (by omega)] at this
                exact this
              have hii : ((i : Int) != (i : Int)) = false := by simp
              clear hcell hS5
              go_wp2
              go_roundw
              case measure => simp [intOf]; omega
              case rel => exact ⟨k + 1, by omega, by go_num, HO⟩
            · have hkz : ¬ (k : Int) < (n : Int) := by omega
              go_wp2
              go_roundw
              case measure => simp [intOf]; omega
              case rel => exact ⟨i + 1, by omega, by go_num, HE5⟩
        · have hiz : ¬ (i : Int) < (en.length : Int) := by omega
          go_wp2
          exact bodyPost_ret (results_tmp rfl _ _ _) rfl ⟨rfl, HE.out.ot⟩
end Go.Proofs.Ytffdfegelgpniaa
