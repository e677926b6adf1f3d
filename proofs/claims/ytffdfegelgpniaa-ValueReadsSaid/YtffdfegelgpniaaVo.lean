/-
  Values that own their lists; how bytes are read as a value, in plain words.
-/
import Derived.Test.YtffdfegelgpniaaVn
set_option linter.unusedSimpArgs false
set_option linter.unusedVariables false
namespace Go.Proofs.Ytffdfegelgpniaa
open Go.RowKit Go.Fl

/-- A value in memory, each of whose lists lies in a block of its own: those of S. -/
inductive VO (w : World) : V → List Value → List Nat → Prop
  | mk {k i : Int} {r : Nat} {t : ByteArray} {l : List V} {s : Value} (css : List (List Value)) (Ss : List (List Nat)) : (Lit.int .i64 k).wf = true → (Lit.int .i64 i).wf = true → r < 18446744073709551616 → t.size ≤ maxLen →
      css.length = l.length → Ss.length = l.length → Sl w 33 5 s l.length css.flatten → (∀ j (h : j < l.length), VO w l[j] (css.getD j []) (Ss.getD j [])) → VO w (.mk k i r t l) [iv k, iv i, fv r, .string t, s] (s.ownBlock.toList ++ Ss.flatten)
section
variable {w w' : World}
theorem VO.five {v : V} {cs : List Value} {S : List Nat} (h : VO w v cs S) : ∃ (k i : Int) (r : Nat) (t : ByteArray) (s : Value), cs = [iv k, iv i, fv r, .string t, s] := by
  cases h with
  | mk => exact ⟨_, _, _, _, _, rfl⟩
theorem VO.len {v : V} {cs : List Value} {S : List Nat} (h : VO w v cs S) : cs.length = 5 := by
  obtain ⟨_, _, _, _, _, rfl⟩ := h.five
  rfl
theorem flatten_mem {Ss : List (List Nat)} {j g : Nat} (hj : j < Ss.length) (h : g ∈ Ss.getD j []) : g ∈ Ss.flatten := by
  rw [List.getD_eq_getElem?_getD, List.getElem?_eq_getElem hj] at h
  exact List.mem_flatten.2 ⟨_, List.getElem_mem hj, h⟩
theorem VO.lt {v : V} {cs : List Value} {S : List Nat} (h : VO w v cs S) : ∀ g ∈ S, g < w.heap.size := by
  induction h with
  | @mk k i r t l s css Ss h1 h2 h3 h4 h5 h6 h7 h8 ih =>
    intro g hg
    rcases List.mem_append.1 hg with hg | hg
    · exact h7.lt g (by simpa using hg)
    · obtain ⟨S, hS, hg⟩ := List.mem_flatten.1 hg
      obtain ⟨j, hj, rfl⟩ := List.getElem_of_mem hS
      have := ih j (by omega) g
      rw [List.getD_eq_getElem?_getD, List.getElem?_eq_getElem hj] at this
      exact this hg
theorem VO.keep {v : V} {cs : List Value} {S : List Nat} (h : VO w v cs S) (hk : ∀ g ∈ S, w'.heap[g]? = w.heap[g]?) : VO w' v cs S := by
  induction h with
  | @mk k i r t l s css Ss h1 h2 h3 h4 h5 h6 h7 h8 ih =>
    refine .mk css Ss h1 h2 h3 h4 h5 h6 (h7.keep fun g hg => hk g (List.mem_append_left _ (by simp [hg]))) fun j hj => ih j hj fun g hg => hk g (List.mem_append_right _ (flatten_mem (by omega) hg))
theorem VO.only {v : V} {cs : List Value} {S T : List Nat} (h : VO w v cs S) (ho : Only T w w') (hT : ∀ g ∈ S, g ∉ T) : VO w' v cs S := h.keep fun g hg => ho.block g (h.lt g hg) (hT g hg)
theorem VO.grown {v : V} {cs : List Value} {S : List Nat} {row : Option Nat} (h : VO w v cs S) (hg : w.grownBy w' row) (hT : ∀ g ∈ S, row ≠ some g) : VO w' v cs S := h.keep fun g hs => hg.block g (h.lt g hs) fun e => hT g hs e.symm
theorem flatten_five : ∀ (css : List (List Value)), (∀ cs ∈ css, cs.length = 5) → ∀ j c (h : j < css.length), c < 5 → css.flatten[j * 5 + c]? = (css.getD j [])[c]?
  | [], _, j, _, h, _ => absurd h (Nat.not_lt_zero _)
  | a :: css, hl, 0, c, _, hc => by
    have := hl a (by simp)
    simp only [List.flatten_cons, Nat.zero_mul, Nat.zero_add, List.getD_cons_zero]
    rw [List.getElem?_append_left (by omega)]
  | a :: css, hl, j + 1, c, h, hc => by
    have h5 := hl a (by simp)
    simp only [List.flatten_cons, List.getD_cons_succ]
    rw [List.getElem?_append_right (by omega), h5, show (j + 1) * 5 + c - 5 = j * 5 + c by omega]
    exact flatten_five css (fun cs hm => hl cs (by simp [hm])) j c (by simpa using h) hc
theorem VO.vis {v : V} {cs : List Value} {S : List Nat} (h : VO w v cs S) : VIs w (· ∈ S) v cs := by
  induction h with
  | @mk k i r t l s css Ss h1 h2 h3 h4 h5 h6 h7 h8 ih =>
    have hc5 : ∀ cs ∈ css, cs.length = 5 := fun cs hm => by
      obtain ⟨j, hj, rfl⟩ := List.getElem_of_mem hm
      have := (h8 j (by omega)).len
      rwa [List.getD_eq_getElem?_getD, List.getElem?_eq_getElem hj] at this
    have hform : ∃ a cap, s = .slice a l.length cap ∧ l.length ≤ cap ∧ cap ≤ maxLen := by
      rcases h7.2 with ⟨e, e2⟩ | ⟨g, off, cap', cur, e, hh, h1, h2, _, _⟩
      · exact ⟨_, _, e.trans (by rw [e2]), by omega, by decide⟩
      · exact ⟨_, _, e, h1, h2⟩
    obtain ⟨a, cap, rfl, hc1, hc2⟩ := hform
    refine .mk (fun j => css.getD j []) h1 h2 h3 h4 hc1 hc2 (fun h0 => ?_) fun j hj => (ih j hj).mono fun g hg => List.mem_append_right _ (flatten_mem (by omega) hg)
    obtain ⟨g, off, cap', hv, hg, _, _, hc, _⟩ := h7.form h0
    injection hv with e1 _ e3
    subst e1
    refine ⟨g, off, rfl, hg, List.mem_append_left _ (by simp [Value.ownBlock]), fun j c u hj hu => ?_⟩
    have hlen := (h8 j hj).len
    have hc' : c < 5 := by
      by_cases hh : c < 5
      · exact hh
      · rw [List.getElem?_eq_none (by omega)] at hu; cases hu
    rw [Nat.add_assoc, hc (j * 5 + c) (by omega), flatten_five css hc5 j c (by omega) hc']
    exact hu
theorem VIs.of_own {F : Nat → Prop} {v : V} {cs : List Value} {S : List Nat} (h : VO w v cs S) (hF : ∀ g ∈ S, F g) : VIs w F v cs := h.vis.mono hF
end
/-- A value that has no list. -/
theorem VO.plain {w : World} {k i : Int} {r : Nat} {t : ByteArray} (h1 : (Lit.int .i64 k).wf = true) (h2 : (Lit.int .i64 i).wf = true) (h3 : r < 18446744073709551616) (h4 : t.size ≤ maxLen) : VO w (.mk k i r t []) [iv k, iv i, fv r, .string t, .slice none 0 0] [] :=
  .mk (l := []) [] [] h1 h2 h3 h4 rfl rfl (Sl.nil _ _ _) fun j h => absurd h (Nat.not_lt_zero _)
/-- How reading goes on. -/
inductive PR where
  | ok (v : V) (pos : Nat) (room : Int)
  | bad (p e : Int)
mutual
/-- A value whose first byte has been taken (fuel, the bytes, the first byte, within so many lists, where, how much room). -/
def pval : Nat → List Nat → Nat → Nat → Nat → Int → PR
  | 0, _, _, _, _, _ => .bad 0 0
  | n + 1, bs, first, nest, at_, room =>
    if first = 6 ∧ nest = 8 then .bad (at_ - 1) 3
    else if first ≠ 5 ∧ 1 ≤ first ∧ first ≤ 6 ∧ room - 1 < 0 then .bad (at_ - 1) 3
    else if first = 1 then .ok (.mk 1 0 0 ⟨#[]⟩ []) at_ (room - 1)
    else if first = 2 then (match bs[at_]? with | none => .bad bs.length 2 | some c => if 1 < c then .bad at_ 4 else .ok (.mk 2 c 0 ⟨#[]⟩ []) (at_ + 1) (room - 1))
    else if first = 3 then (if at_ + 8 ≤ bs.length then .ok (.mk 3 (num ((bs.drop at_).take 8) - 9223372036854775808) 0 ⟨#[]⟩ []) (at_ + 8) (room - 1) else .bad bs.length 2)
    else if first = 4 then (if at_ + 8 ≤ bs.length then (match unkeyR (num ((bs.drop at_).take 8)) with | none => .bad at_ 4 | some b => .ok (.mk 4 0 b ⟨#[]⟩ []) (at_ + 8) (room - 1)) else .bad bs.length 2)
    else if first = 5 then (match ptext (bs.drop at_) at_ [] with | .short => .bad bs.length 2 | .form q => .bad q 4 | .done t q => if room - (1 + (t.length : Int)) < 0 then .bad (at_ - 1) 3 else .ok (.mk 5 0 0 (strB t) []) q (room - (1 + (t.length : Int))))
    else if first = 6 then plist n bs (nest + 1) at_ (room - 1) []
    else .bad (at_ - 1) 4
def plist : Nat → List Nat → Nat → Nat → Int → List V → PR
  | 0, _, _, _, _, _ => .bad 0 0
  | n + 1, bs, nest, at_, room, acc =>
    match bs[at_]? with
    | none => .bad bs.length 2
    | some c => if c = 0 then .ok (.mk 6 0 0 ⟨#[]⟩ acc) (at_ + 1) room else
      match pval n bs c nest (at_ + 1) room with
      | .bad p e => .bad p e
      | .ok v q rm => plist n bs nest q rm (acc ++ [v])
end
theorem ptext_pos : ∀ (n : Nat) (l : List Nat) (pos : Nat) (acc t : List Nat) (q : Nat), l.length ≤ n → ptext l pos acc = .done t q → pos ≤ q
  | n, [], pos, acc, t, q, _, h => by simp [ptext] at h
  | 0, c :: l, pos, acc, t, q, hl, h => by simp at hl
  | n + 1, c :: l, pos, acc, t, q, hl, h => by
    by_cases hc : c = 0
    · subst hc
      cases l with
      | nil => simp [ptext] at h
      | cons d l =>
        simp only [ptext, if_true] at h
        split at h
        · injection h; omega
        · split at h
          · have := ptext_pos n l (pos + 2) _ t q (by simp at hl; omega) h
            omega
          · cases h
    · rw [ptext_ne hc] at h
      have := ptext_pos n l (pos + 1) _ t q (by simpa using hl) h
      omega
mutual
theorem pval_ok : ∀ (n : Nat) (bs : List Nat) (first nest at_ : Nat) (room : Int) (v : V) (q : Nat) (rm : Int), 0 ≤ room → pval n bs first nest at_ room = .ok v q rm → at_ ≤ q ∧ 0 ≤ rm ∧ rm ≤ room
  | 0, bs, first, nest, at_, room, v, q, rm, h0, h => by simp [pval] at h
  | n + 1, bs, first, nest, at_, room, v, q, rm, h0, h => by
    unfold pval at h
    by_cases c1 : first = 6 ∧ nest = 8
    · rw [if_pos c1] at h; cases h
    rw [if_neg c1] at h
    by_cases c2 : first ≠ 5 ∧ 1 ≤ first ∧ first ≤ 6 ∧ room - 1 < 0
    · rw [if_pos c2] at h; cases h
    rw [if_neg c2] at h
    by_cases k1 : first = 1
    · rw [if_pos k1] at h; injection h; omega
    rw [if_neg k1] at h
    by_cases k2 : first = 2
    · rw [if_pos k2] at h
      split at h
      · cases h
      · split at h
        · cases h
        · injection h; omega
    rw [if_neg k2] at h
    by_cases k3 : first = 3
    · rw [if_pos k3] at h
      split at h
      · injection h; omega
      · cases h
    rw [if_neg k3] at h
    by_cases k4 : first = 4
    · rw [if_pos k4] at h
      split at h
      · split at h
        · cases h
        · injection h; omega
      · cases h
    rw [if_neg k4] at h
    by_cases k5 : first = 5
    · rw [if_pos k5] at h
      split at h
      · cases h
      · cases h
      · rename_i t q' ht
        split at h
        · cases h
        · have := ptext_pos _ _ _ _ _ _ (Nat.le_refl _) ht
          injection h; omega
    rw [if_neg k5] at h
    by_cases k6 : first = 6
    · rw [if_pos k6] at h
      have := plist_ok n bs (nest + 1) at_ (room - 1) [] v q rm (by omega) h
      omega
    rw [if_neg k6] at h
    cases h
theorem plist_ok : ∀ (n : Nat) (bs : List Nat) (nest at_ : Nat) (room : Int) (acc : List V) (v : V) (q : Nat) (rm : Int), 0 ≤ room → plist n bs nest at_ room acc = .ok v q rm → at_ ≤ q ∧ 0 ≤ rm ∧ rm ≤ room
  | 0, bs, nest, at_, room, acc, v, q, rm, h0, h => by simp [plist] at h
  | n + 1, bs, nest, at_, room, acc, v, q, rm, h0, h => by
    unfold plist at h
    split at h
    · cases h
    · split at h
      · injection h; omega
      · split at h
        · cases h
        · rename_i x q' rm' hx
          have h1 := pval_ok n bs _ nest (at_ + 1) room x q' rm' h0 hx
          have h2 := plist_ok n bs nest q' rm' _ v q rm (by omega) h
          omega
end
end Go.Proofs.Ytffdfegelgpniaa
