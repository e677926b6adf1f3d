/-
  ClockAll: both clocks side by side, in plain words.
-/
import Derived.Test.YtjnhplgdbdneiaaGd
import Derived.Test.YtjnhplgdbdneiaaGe
import Derived.Test.YtjnhplgdbdneiaaGf
import Derived.Test.YtjnhplgdbdneiaaArgs4
import Derived.Test.YtjnhplgdbdneiaaEa
set_option linter.unusedSimpArgs false
set_option linter.unusedVariables false
namespace Go.Proofs.Ytjnhplgdbdneiaa
open Go.RowKit Go.Fl

/-- A sum of floats is some float. -/
theorem add_some (a b : Nat) (w : World) : ∃ y w', y < 18446744073709551616 ∧ (binOp .add 29 (fv a) (fv b)).run Try.prog w = .ok (fv y) w' ∧ (w' = w ∨ w' = w.drew) := by
  cases h : floatBits .add .f64 a b with
  | some r =>
    have hwf := floatBits_wf h
    have hr : r < 18446744073709551616 := by simpa [Lit.wf] using hwf
    exact ⟨r, w, hr, run_float_arith w .add 29 .f64 a b r h, .inl rfl⟩
  | none =>
    have h2 : FloatKind.f64.format.add a b = none := h
    refine ⟨Question.cut (.nanBits .f64 a b) (w.tape w.drawn (.nanBits .f64 a b)), w.drew, ?_, ?_, .inr rfl⟩
    · show (w.tape w.drawn (.nanBits .f64 a b) % 2) * 2 ^ 63 + 0x7ff0000000000000 + 1 + (w.tape w.drawn (.nanBits .f64 a b) / 2) % (2 ^ 52 - 1) < _
      omega
    · unfold binOp
      simp [Op.floatArith, h2]
      intro hf
      exact absurd hf (by simp [Question.forced])
/-- What is no document's clock's stays. -/
theorem sl_keepDW {w w' : World} {q now e size k : Nat} {n : Int} {L : List Tm} {v v' u : Value} {xs : List Value} (h : Sl w e size u k xs) (hd : DK w q now n L v) (hg : GW w q v w' v') (h1 : e ≠ 54) (h2 : e ≠ 70) : Sl w' e size u k xs :=
  h.only hg.only fun g hz hm => by
    obtain ⟨cur, hb⟩ := sl_ty h hz
    rcases List.mem_cons.1 hm with e | hm
    · exact Blk.ne_ hb hd.blk h1 e
    · obtain ⟨cur2, hb2⟩ := sl_ty hd.sl (show v.ownBlock = some g by simpa using hm)
      exact Blk.ne_ hb hb2 h2 rfl
/-- A clock and the document's. -/
structure PD (w wr : World) (r na : Nat) (la : Int) (l : List Tm) (s : Value) (q nb : Nat) (lb : Int) (L : List Tm) (v : Value) : Prop where
  ca : CK wr r na la l s
  cb : DK wr q nb lb L v
  dis : ∀ g, s.ownBlock = some g → v.ownBlock ≠ some g
  fa : w.heap.size ≤ r
  fb : w.heap.size ≤ q
  oa : ∀ g, s.ownBlock = some g → w.heap.size ≤ g
  ob : ∀ g, v.ownBlock = some g → w.heap.size ≤ g
  only : Only [] w wr
section
variable {w wr w3 : World} {r na na2 : Nat} {la la2 : Int} {l l2 : List Tm} {s s2 : Value} {q nb nb2 : Nat} {lb lb2 : Int} {L L2 : List Tm} {v v2 : Value}
theorem PD.only0 (h : PD w wr r na la l s q nb lb L v) (ho : Only [] wr w3) : PD w w3 r na la l s q nb lb L v :=
  ⟨h.ca.only0 ho, h.cb.only0 ho, h.dis, h.fa, h.fb, h.oa, h.ob, h.only.trans ho⟩
theorem PD.left (h : PD w wr r na la l s q nb lb L v) (hc : CK w3 r na2 la2 l2 s2) (hg : GW wr r s w3 s2) : PD w w3 r na2 la2 l2 s2 q nb lb L v := by
  have hne : q ≠ r := Blk.ne_ h.cb.blk h.ca.blk (by decide)
  have hv : ∀ g, v.ownBlock = some g → g < wr.heap.size ∧ g ≠ r := fun g hs => by
    obtain ⟨cur, hb⟩ := sl_ty h.cb.sl hs
    exact ⟨hb.lt, Blk.ne_ hb h.ca.blk (by decide)⟩
  have hS : ∀ g, v.ownBlock = some g → g ∉ r :: s.ownBlock.toList := fun g hg2 hm => by
    rcases List.mem_cons.1 hm with e | hm
    · exact (hv g hg2).2 e
    · exact h.dis g (by simpa using hm) hg2
  have hq : q ∉ r :: s.ownBlock.toList := fun hm => by
    rcases List.mem_cons.1 hm with e | hm
    · exact hne e
    · obtain ⟨cur2, hb2⟩ := sl_ty h.ca.sl (show s.ownBlock = some q by simpa using hm)
      exact Blk.ne_ h.cb.blk hb2 (by decide) rfl
  refine ⟨hc, ⟨h.cb.blk.only hg.only hq, h.cb.sl.only hg.only hS, h.cb.le⟩, fun g hs hb => ?_, h.fa, h.fb, fun g hs => ?_, h.ob, h.only.trans' hg.only fun i hi => .inr ?_⟩
  · rcases hg.own g hs with e | e
    · exact h.dis g e hb
    · have := (hv g hb).1
      omega
  · rcases hg.own g hs with e | e
    · exact h.oa g e
    · have := h.only.size
      omega
  · rcases List.mem_cons.1 hi with e | hi
    · have := h.fa
      omega
    · exact h.oa i (by simpa using hi)
theorem PD.right (h : PD w wr r na la l s q nb lb L v) (hc : DK w3 q nb2 lb2 L2 v2) (hg : GW wr q v w3 v2) : PD w w3 r na la l s q nb2 lb2 L2 v2 := by
  have hne : r ≠ q := Blk.ne_ h.ca.blk h.cb.blk (by decide)
  have hv : ∀ g, s.ownBlock = some g → g < wr.heap.size ∧ g ≠ q := fun g hs => by
    obtain ⟨cur, hb⟩ := sl_ty h.ca.sl hs
    exact ⟨hb.lt, Blk.ne_ hb h.cb.blk (by decide)⟩
  have hS : ∀ g, s.ownBlock = some g → g ∉ q :: v.ownBlock.toList := fun g hg2 hm => by
    rcases List.mem_cons.1 hm with e | hm
    · exact (hv g hg2).2 e
    · exact h.dis g hg2 (by simpa using hm)
  have hq : r ∉ q :: v.ownBlock.toList := fun hm => by
    rcases List.mem_cons.1 hm with e | hm
    · exact hne e
    · obtain ⟨cur2, hb2⟩ := sl_ty h.cb.sl (show v.ownBlock = some r by simpa using hm)
      exact Blk.ne_ h.ca.blk hb2 (by decide) rfl
  refine ⟨⟨h.ca.blk.only hg.only hq, h.ca.sl.only hg.only hS, h.ca.le⟩, hc, fun g hs hb => ?_, h.fa, h.fb, h.oa, fun g hs => ?_, h.only.trans' hg.only fun i hi => .inr ?_⟩
  · rcases hg.own g hb with e | e
    · exact h.dis g hs e
    · have := (hv g hs).1
      omega
  · rcases hg.own g hs with e | e
    · exact h.ob g e
    · have := h.only.size
      omega
  · rcases List.mem_cons.1 hi with e | hi
    · have := h.fb
      omega
    · exact h.ob i (by simpa using hi)
end
/-- What holds of both lists of timers. -/
structure LL (now : Nat) (n : Int) (l L : List Tm) : Prop where
  rel : Rel l L
  ids : ∀ y ∈ L, y.1 ≤ n
  nod : (L.map (·.1)).Nodup
  ge : ∀ y ∈ L, now ≤ y.2
  fin : now < 9218868437227405312
  len : L.length ≤ 256
section
variable {now : Nat} {n : Int} {l L : List Tm}
theorem LL.nil (h : now < 9218868437227405312) : LL now n [] [] := ⟨Rel.nil, fun y hy => (by cases hy), List.nodup_nil, fun y hy => (by cases hy), h, by simp⟩
theorem LL.after (h : LL now n l L) {t : Nat} (ht : now ≤ t) (hl : L.length ≠ 256) : LL now (n + 1) (hpush l (n + 1, t)) (insT (n + 1, t) L) := by
  have h1 := h.rel.ins (t := t) h.ids
  have hp : (insT (n + 1, t) L).Perm ((n + 1, t) :: L) := by
    unfold insT
    refine List.perm_middle.trans ?_
    rw [List.takeWhile_append_dropWhile]
  refine ⟨h1.1, h1.2, ?_, fun y hy => ?_, h.fin, ?_⟩
  · refine (hp.map (·.1)).nodup_iff.2 (List.nodup_cons.2 ⟨fun hm => ?_, h.nod⟩)
    obtain ⟨y, hy, e⟩ := List.mem_map.1 hm
    have := h.ids y hy
    simp at e
    omega
  · rcases List.mem_cons.1 (hp.mem_iff.1 hy) with rfl | hy
    · exact ht
    · exact h.ge y hy
  · rw [hp.length_eq, List.length_cons]
    have := h.len
    omega
theorem nodup_id {L : List Tm} (h : (L.map (·.1)).Nodup) {x y : Tm} (hx : x ∈ L) (hy : y ∈ L) (e : x.1 = y.1) : x = y := by
  induction L with
  | nil => cases hx
  | cons z L ih =>
    rw [List.map_cons, List.nodup_cons] at h
    rcases List.mem_cons.1 hx with rfl | hx' <;> rcases List.mem_cons.1 hy with rfl | hy'
    · rfl
    · exact absurd (List.mem_map.2 ⟨y, hy', e.symm⟩) h.1
    · exact absurd (show y.1 ∈ L.map (·.1) from List.mem_map.2 ⟨x, hx', e⟩) h.1
    · exact ih h.2 hx' hy'
theorem LL.cancel (h : LL now n l L) {i j : Nat} {id : Int} (hi : i < l.length) (hii : (l.getD i (0, 0)).1 = id) (hj : j < L.length) (hjj : (L.getD j (0, 0)).1 = id) : LL now n ((hrot l i).take (l.length - 1)) (L.eraseIdx j) := by
  have hL : L = L.take j ++ L[j] :: L.drop (j + 1) := by rw [List.getElem_cons_drop, List.take_append_drop]
  have hm : l.getD i (0, 0) ∈ L := h.rel.perm.mem_iff.1 (by rw [getD_getElem hi]; exact List.getElem_mem hi)
  have he : l.getD i (0, 0) = L[j] := nodup_id h.nod hm (List.getElem_mem hj) (by rw [hii, ← hjj, getD_getElem hj])
  have hr := h.rel
  rw [hL] at hr
  refine ⟨?_, fun y hy => h.ids y (List.mem_of_mem_eraseIdx hy), ?_, fun y hy => h.ge y (List.mem_of_mem_eraseIdx hy), h.fin, ?_⟩
  · rw [List.eraseIdx_eq_take_drop_succ]
    exact hr.rem hi he
  · exact h.nod.sublist ((List.eraseIdx_sublist _ _).map _)
  · rw [List.length_eraseIdx]
    have := h.len
    split <;> omega
theorem LL.go {t : Nat} {A B m : List Tm} (h : LL now n l L) (hL : L = A ++ B) (hm : Rel m B) (ht : now ≤ t) (hti : t < 9218868437227405312) (hh : ∀ x ∈ B.head?, t < x.2) : LL t n m B := by
  have hB : ∀ y ∈ B, y ∈ L := fun y hy => by rw [hL]; exact List.mem_append_right _ hy
  have hs := h.rel.srt
  rw [hL] at hs
  refine ⟨hm, fun y hy => h.ids y (hB y hy), ?_, fun y hy => Nat.le_of_lt (srt_head (List.pairwise_append.1 hs).2.1 hh y hy), hti, ?_⟩
  · have := h.nod
    rw [hL, List.map_append] at this
    exact (List.nodup_append.1 this).2.1
  · have := h.len
    rw [hL, List.length_append] at this
    omega
theorem LL.next (h : LL now n l L) (hb : nextB L = true) (hle : ∀ x ∈ L, x.2 ≤ 9218868437227405312) : now ≤ nextV L ∧ nextV L < 9218868437227405312 := by
  have h1 := of_decide_eq_true hb
  have hne : L ≠ [] := fun e => h1 (.inl e)
  have hl : 0 < L.length := List.length_pos_iff.2 hne
  have hv : nextV L = (L.getD 0 (0, 0)).2 := by unfold nextV; rw [if_neg h1]
  have hm : L.getD 0 (0, 0) ∈ L := by rw [getD_getElem hl]; exact List.getElem_mem hl
  have hx := h.ge _ hm
  have hy := hle _ hm
  have hz : (L.getD 0 (0, 0)).2 ≠ 9218868437227405312 := fun e => h1 (.inr e)
  rw [hv]
  omega
end
end Go.Proofs.Ytjnhplgdbdneiaa
