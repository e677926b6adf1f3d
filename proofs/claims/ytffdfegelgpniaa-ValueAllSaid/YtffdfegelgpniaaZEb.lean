/-
  The lists of bytes that are kept: Apart.
-/
import Derived.Test.YtffdfegelgpniaaZEa
set_option linter.unusedSimpArgs false
set_option linter.unusedVariables false
set_option linter.unusedSimpArgs false
set_option linter.unusedVariables false
namespace Go.Proofs.Ytffdfegelgpniaa
open Go.Fl Go.RowKit

structure QE (W w : World) (r gb ob cb sz : Nat) (ents : List Value) (P : Nat → Nat → List Value → Prop) : Prop where
  rge : W.heap.size ≤ r
  gge : W.heap.size ≤ gb
  blk : Blk w r 53 #[.slice (some ⟨gb, ob, none⟩) ents.length cb, iv sz]
  sl : Sl w 28 1 (.slice (some ⟨gb, ob, none⟩) ents.length cb) ents.length ents
  ent : ∀ (j : Nat) (h : j < ents.length), ∃ g off n cap xs, ents[j] = .slice (some ⟨g, off, none⟩) n cap ∧ W.heap.size ≤ g ∧ n ≤ 5000000 ∧ Sl w 5 1 (.slice (some ⟨g, off, none⟩) n cap) n xs ∧ P j n xs
  apart : ∀ (i j : Nat) (hi : i < ents.length) (hj : j < ents.length), i < j → ents[i].ownBlock ≠ ents[j].ownBlock
  only : Only [] W w
section
variable {W w w' : World} {r gb ob cb sz : Nat} {ents : List Value} {P P' : Nat → Nat → List Value → Prop}
theorem QE.mono (h : QE W w r gb ob cb sz ents P) (hP : ∀ j n xs, j < ents.length → P j n xs → P' j n xs) : QE W w r gb ob cb sz ents P' :=
  ⟨h.rge, h.gge, h.blk, h.sl, fun j hj => by
    obtain ⟨g, off, n, cap, xs, h1, h2, h3, h4, h5⟩ := h.ent j hj
    exact ⟨g, off, n, cap, xs, h1, h2, h3, h4, hP j n xs hj h5⟩, h.apart, h.only⟩
theorem QE.mono2 (h : QE W w r gb ob cb sz ents P) (hP : ∀ j n xs (hj : j < ents.length), (∃ g off cap, ents[j] = .slice (some ⟨g, off, none⟩) n cap) → xs.length = n * 1 → P j n xs → P' j n xs) : QE W w r gb ob cb sz ents P' :=
  ⟨h.rge, h.gge, h.blk, h.sl, fun j hj => by
    obtain ⟨g, off, n, cap, xs, h1, h2, h3, h4, h5⟩ := h.ent j hj
    exact ⟨g, off, n, cap, xs, h1, h2, h3, h4, hP j n xs hj ⟨g, off, cap, h1⟩ h4.len h5⟩, h.apart, h.only⟩
theorem QE.only0 (h : QE W w r gb ob cb sz ents P) (ho : Only [] w w') : QE W w' r gb ob cb sz ents P :=
  ⟨h.rge, h.gge, h.blk.only ho (by simp), h.sl.only ho (fun _ _ => by simp), fun j hj => by
    obtain ⟨g, off, n, cap, xs, h1, h2, h3, h4, h5⟩ := h.ent j hj
    exact ⟨g, off, n, cap, xs, h1, h2, h3, h4.only ho (fun _ _ => by simp), h5⟩, h.apart, h.only.trans ho⟩
theorem apartQ (h : QE W w r gb ob cb sz ents P) {i j : Nat} (hi : i < ents.length) (hj : j < ents.length) (hij : i ≠ j) : ents[i].ownBlock ≠ ents[j].ownBlock := by
  rcases Nat.lt_or_gt_of_ne hij with h1 | h1
  · exact h.apart i j hi hj h1
  · exact fun e => h.apart j i hj hi h1 e.symm
/-- One of the lists has been appended to, and laid back. -/
theorem QE.grow {w7 : World} {i g off n cap : Nat} {xs new : List Value} {v7 : Value} (h : QE W w r gb ob cb sz ents P) (hi : i < ents.length) (he : ents[i] = .slice (some ⟨g, off, none⟩) n cap) (hn : n + 1 ≤ 5000000)
    (hS : Sl w7 5 1 v7 (n + 1) (xs ++ new)) (hg : w.grownBy w7 (some g)) (hat : v7.ownBlock = some g ∨ v7.ownBlock = some w.heap.size)
    (hP : ∀ j n xs, j < ents.length → j ≠ i → P j n xs → P' j n xs) (hPi : P' i (n + 1) (xs ++ new)) : QE W (w7.setCell ⟨gb, ob + i, none⟩ v7) r gb ob cb sz (ents.set i v7) P' := by
  obtain ⟨gi, offi, ni, capi, xsi, e1, hgi, _, hsi, _⟩ := h.ent i hi
  rw [he] at e1
  injection e1 with e1 e2 e3
  injection e1 with e1
  injection e1 with e1 e4
  subst e1
  subst e2
  subst e3
  subst e4
  obtain ⟨ci, hbi⟩ := Sl.blk hsi (g := g) rfl
  obtain ⟨cb', hbb⟩ := Sl.blk h.sl (g := gb) rfl
  have hgr : g ≠ r := Blk.ne_ hbi h.blk (by decide)
  have hgb : g ≠ gb := Blk.ne_ hbi hbb (by decide)
  have hrb : r ≠ gb := Blk.ne_ h.blk hbb (by decide)
  have h7 : ∀ k, k < w.heap.size → k ≠ g → w7.heap[k]? = w.heap[k]? := fun k hk hne => hg.block k hk fun e => hne (by injection e)
  have hlt7 : ∀ g', v7.ownBlock = some g' → g' = g ∨ g' = w.heap.size := fun g' e => by
    rcases hat with e2 | e2
    · rw [e2] at e; injection e with e; exact .inl e.symm
    · rw [e2] at e; injection e with e; exact .inr e.symm
  have hr7 : Blk w7 r 53 #[.slice (some ⟨gb, ob, none⟩) ents.length cb, iv sz] := (h7 r h.blk.lt fun e => hgr e.symm).trans h.blk
  have hs7 : Sl w7 28 1 (.slice (some ⟨gb, ob, none⟩) ents.length cb) ents.length ents := h.sl.keep fun g' hg' => by
    have : gb = g' := by simpa [Value.ownBlock] using hg'
    subst this
    exact h7 gb hbb.lt fun e => hgb e.symm
  have hv : ∃ g2 off2 cap2, v7 = .slice (some ⟨g2, off2, none⟩) (n + 1) cap2 := by
    obtain ⟨g2, off2, cap2, e, _⟩ := hS.form (by omega)
    exact ⟨g2, off2, cap2, e⟩
  obtain ⟨g2, off2, cap2, rfl⟩ := hv
  have hg2 := hlt7 g2 rfl
  have h2b : g2 ≠ gb := by
    have := hbb.lt
    rcases hg2 with e | e
    · rw [e]; exact hgb
    · omega
  refine ⟨h.rge, h.gge, ?_, ?_, fun j hj => ?_, fun a b ha hb hab => ?_, ?_⟩
  · rw [List.length_set]
    exact hr7.far (show r ≠ gb from hrb) _
  · rw [List.length_set]
    exact Sl.set1 hs7 hi _
  · have hj' : j < ents.length := by simpa using hj
    by_cases hji : j = i
    · subst hji
      exact ⟨g2, off2, n + 1, cap2, xs ++ new, by simp, by rcases hg2 with e | e <;> first | omega | (have := h.only.size; omega), hn, hS.far (by simpa [Value.ownBlock] using h2b) _, hPi⟩
    · obtain ⟨gj, offj, nj, capj, xsj, q1, q2, q3, q4, q5⟩ := h.ent j hj'
      have hne : gj ≠ g := fun e => apartQ h hj' hi hji (by rw [q1, he, e]; rfl)
      obtain ⟨cj, hbj⟩ := Sl.blk q4 (g := gj) rfl
      refine ⟨gj, offj, nj, capj, xsj, by rw [List.getElem_set_ne (fun e => hji e.symm)]; exact q1, q2, q3, (q4.keep fun g' hg' => ?_).far (by
        have := Blk.ne_ hbj hbb (by decide)
        simpa [Value.ownBlock] using this) _, hP j nj xsj hj' hji q5⟩
      have : gj = g' := by simpa [Value.ownBlock] using hg'
      subst this
      exact h7 gj hbj.lt hne
  · have ha' : a < ents.length := by simpa using ha
    have hb' : b < ents.length := by simpa using hb
    have key : ∀ (c : Nat) (hc : c < ents.length), c ≠ i → ents[c].ownBlock ≠ some g2 := fun c hc hci e => by
      obtain ⟨gj, offj, nj, capj, xsj, q1, q2, q3, q4, q5⟩ := h.ent c hc
      rcases hg2 with e2 | e2
      · subst e2
        exact apartQ h hc hi hci (by rw [e, he]; rfl)
      · rw [q1] at e
        have e3 : gj = g2 := by simpa [Value.ownBlock] using e
        have := q4.lt gj rfl
        omega
    by_cases hai : a = i
    · subst hai
      rw [List.getElem_set_self, List.getElem_set_ne (by omega)]
      exact fun e => key b hb' (by omega) e.symm
    · rw [List.getElem_set_ne (fun e => hai e.symm)]
      by_cases hbi2 : b = i
      · subst hbi2
        rw [List.getElem_set_self]
        exact key a ha' hai
      · rw [List.getElem_set_ne (fun e => hbi2 e.symm)]
        exact h.apart a b ha' hb' hab
  · exact (h.only.grown hg fun k hk => by injection hk with hk; subst hk; exact .inr hgi).setCell (.inr h.gge) _
theorem QE.after {w7 : World} {i g off n cap : Nat} (h : QE W w r gb ob cb sz ents P) (hi : i < ents.length) (he : ents[i] = .slice (some ⟨g, off, none⟩) n cap) (hg : w.grownBy w7 (some g)) :
    Blk w7 r 53 #[.slice (some ⟨gb, ob, none⟩) ents.length cb, iv sz] ∧ Sl w7 28 1 (.slice (some ⟨gb, ob, none⟩) ents.length cb) ents.length ents := by
  obtain ⟨gi, offi, ni, capi, xsi, e1, hgi, _, hsi, _⟩ := h.ent i hi
  rw [he] at e1
  injection e1 with e1 e2 e3
  injection e1 with e1
  injection e1 with e1 e4
  subst e1
  obtain ⟨ci, hbi⟩ := Sl.blk hsi (g := g) rfl
  obtain ⟨cb', hbb⟩ := Sl.blk h.sl (g := gb) rfl
  have hgr : g ≠ r := Blk.ne_ hbi h.blk (by decide)
  have hgb : g ≠ gb := Blk.ne_ hbi hbb (by decide)
  have h7 : ∀ k, k < w.heap.size → k ≠ g → w7.heap[k]? = w.heap[k]? := fun k hk hne => hg.block k hk fun e => hne (by injection e)
  exact ⟨(h7 r h.blk.lt fun e => hgr e.symm).trans h.blk, h.sl.keep fun g' hg' => by
    have : gb = g' := by simpa [Value.ownBlock] using hg'
    subst this
    exact h7 gb hbb.lt fun e => hgb e.symm⟩
/-- A byte has been written into one of the lists. -/
theorem QE.put {i g off n cap k : Nat} {xs : List Value} {u : Value} (h : QE W w r gb ob cb sz ents P) (hi : i < ents.length) (he : ents[i] = .slice (some ⟨g, off, none⟩) n cap) (hS : Sl w 5 1 (.slice (some ⟨g, off, none⟩) n cap) n xs)
    (hk : k < n) (hP : ∀ j n xs, j < ents.length → j ≠ i → P j n xs → P' j n xs) (hPi : P' i n (xs.set k u)) : QE W (w.setCell ⟨g, off + k, none⟩ u) r gb ob cb sz ents P' := by
  obtain ⟨gi, offi, ni, capi, xsi, e1, hgi, hn8, _, _⟩ := h.ent i hi
  rw [he] at e1
  injection e1 with e1 e2 e3
  injection e1 with e1
  injection e1 with e1 e4
  subst e1
  subst e2
  subst e3
  subst e4
  obtain ⟨cb', hbb⟩ := Sl.blk h.sl (g := gb) rfl
  obtain ⟨cg, hbg⟩ := Sl.blk hS (g := g) rfl
  have hgr : g ≠ r := Blk.ne_ hbg h.blk (by decide)
  have hgb : g ≠ gb := Blk.ne_ hbg hbb (by decide)
  have hO : Only [g] w (w.setCell ⟨g, off + k, none⟩ u) := (Only.refl _ _).setCell (.inl (by simp)) _
  refine ⟨h.rge, h.gge, h.blk.only hO (by simpa using hgr.symm), h.sl.only hO (fun g' hg' hm => ?_), fun j hj => ?_, h.apart, h.only.trans' hO fun g' hg' => .inr (by simp at hg'; omega)⟩
  · have h1 : gb = g' := by simpa [Value.ownBlock] using hg'
    simp at hm
    omega
  · by_cases hji : j = i
    · subst hji
      exact ⟨g, off, n, cap, _, he, hgi, hn8, Sl.set1 hS hk u, hPi⟩
    · obtain ⟨gj, offj, nj, capj, xsj, q1, q2, q3, q4, q5⟩ := h.ent j hj
      have hne : gj ≠ g := fun e => apartQ h hj hi hji (by rw [q1, he, e]; rfl)
      exact ⟨gj, offj, nj, capj, xsj, q1, q2, q3, q4.only hO (fun g' hg' hm => by
        have h1 : gj = g' := by simpa [Value.ownBlock] using hg'
        simp at hm
        omega), hP j nj xsj hj hji q5⟩
end
theorem QE.lenAt {W w : World} {r gb ob cb sz : Nat} {ents : List Value} {P : Nat → Nat → List Value → Prop} (h : QE W w r gb ob cb sz ents P) {i n cap : Nat} {a : Option Addr} (hi : i < ents.length) (he : ents[i] = .slice a n cap) : lenAt w gb (ob + i) = n := by
  obtain ⟨_, _, _, ee, _, _, _, hcell, _⟩ := h.sl.form (by omega)
  injection ee with ea _ ec
  injection ea with ea
  injection ea with ea eb
  subst ea
  subst eb
  have h1 := hcell i (by omega)
  rw [List.getElem?_eq_getElem hi, he] at h1
  exact lenAt_of h1
end Go.Proofs.Ytffdfegelgpniaa
