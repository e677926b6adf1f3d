/-
  ValueBack: the plain law: what is read is a value whose key was read.
-/
import Derived.Test.YtffdfegelgpniaaBa
set_option linter.unusedSimpArgs false
set_option linter.unusedVariables false
namespace Go.Proofs.Ytffdfegelgpniaa
open Go.RowKit Go.Fl

theorem ptext_key : ∀ (n : Nat) (l : List Nat) (pos : Nat) (acc t : List Nat) (q : Nat), l.length ≤ n → (∀ c ∈ l, c < 256) → ptext l pos acc = .done t q →
    ∃ u : List UInt8, t = acc ++ u.map UInt8.toNat ∧ esc u ++ [0, 1] = l.take (q - pos) ∧ pos ≤ q ∧ q ≤ pos + l.length
  | n, [], pos, acc, t, q, _, _, h => by simp [ptext] at h
  | 0, c :: l, pos, acc, t, q, hl, _, h => by simp at hl
  | n + 1, c :: l, pos, acc, t, q, hl, hb, h => by
    by_cases hc : c = 0
    · subst hc
      cases l with
      | nil => simp [ptext] at h
      | cons d l =>
        simp only [ptext, if_true] at h
        split at h
        · rename_i h1
          injection h with h2 h3
          subst h1
          subst h2
          subst h3
          exact ⟨[], by simp, by rw [Nat.add_sub_cancel_left]; rfl, by omega, by simp⟩
        · split at h
          · rename_i h1
            subst h1
            obtain ⟨u, e1, e2, e3, e4⟩ := ptext_key n l (pos + 2) _ t q (by simp at hl; omega) (fun c hc => hb c (by simp [hc])) h
            refine ⟨0 :: u, by rw [e1]; simp, ?_, by omega, by simp; omega⟩
            rw [show q - pos = (q - (pos + 2)) + 2 by omega, List.take_succ_cons, List.take_succ_cons, ← e2]
            simp [esc]
          · cases h
    · rw [ptext_ne hc] at h
      obtain ⟨u, e1, e2, e3, e4⟩ := ptext_key n l (pos + 1) _ t q (by simpa using hl) (fun c hc => hb c (by simp [hc])) h
      have hc256 := hb c (by simp)
      have hcn : (UInt8.ofNat c).toNat = c := by simp; omega
      have hcz : UInt8.ofNat c ≠ 0 := fun e => hc (by rw [← hcn, e]; rfl)
      refine ⟨UInt8.ofNat c :: u, by rw [e1]; simp [hcn], ?_, by omega, by simp; omega⟩
      rw [show q - pos = (q - (pos + 1)) + 1 by omega, List.take_succ_cons, ← e2]
      simp only [esc, if_neg hcz, hcn, List.append_assoc, List.cons_append, List.nil_append]
theorem take_one {bs : List Nat} {n c : Nat} (h : bs[n]? = some c) : n < bs.length ∧ (bs.drop n).take 1 = [c] ∧ bs.drop n = c :: bs.drop (n + 1) := by
  have hn : n < bs.length := by
    by_cases hh : n < bs.length
    · exact hh
    · rw [List.getElem?_eq_none (by omega)] at h; cases h
  rw [List.getElem?_eq_getElem hn] at h
  injection h with h
  have e : bs.drop n = c :: bs.drop (n + 1) := by rw [List.drop_eq_getElem_cons hn, h]
  exact ⟨hn, by rw [e]; rfl, e⟩
theorem strB_map (u : List UInt8) : strB (u.map UInt8.toNat) = ⟨u.toArray⟩ := by
  have := strB_toNat ⟨u.toArray⟩
  simpa using this
theorem bad_no {k i : Int} {r : Nat} {t : ByteArray} {n : Nat} {room : Int} (h0 : 0 ≤ room) (h1 : k = 6 ∨ n = 0) (h2 : k = 5 ∨ t.size = 0) (h3 : k = 4 ∨ r = 0) (h4 : i = 0 ∨ k = 3 ∨ k = 2) : ¬ bad k i r t n room = true := by
  unfold bad
  simp only [Bool.or_eq_true, Bool.and_eq_true, decide_eq_true_eq]
  omega
mutual
theorem pval_back : ∀ (n : Nat) (bs : List Nat) (c nest at_ : Nat) (room : Int) (v : V) (q : Nat) (rm : Int), (∀ c ∈ bs, c < 256) → nest ≤ 8 → at_ ≤ bs.length → pval n bs c nest at_ room = .ok v q rm →
    at_ ≤ q ∧ q ≤ bs.length ∧ ∃ x, v.take nest room = (some x, rm) ∧ x.key = c :: (bs.drop at_).take (q - at_)
  | 0, bs, c, nest, at_, room, v, q, rm, hb, hn, hl, h => by simp [pval] at h
  | n + 1, bs, first, nest, at_, room, v, q, rm, hb, hn, hl, h => by
    unfold pval at h
    by_cases c1 : first = 6 ∧ nest = 8
    · rw [if_pos c1] at h; cases h
    rw [if_neg c1] at h
    by_cases c2 : first ≠ 5 ∧ 1 ≤ first ∧ first ≤ 6 ∧ room - 1 < 0
    · rw [if_pos c2] at h; cases h
    rw [if_neg c2] at h
    by_cases k1 : first = 1
    · rw [if_pos k1] at h
      injection h with h1 h2 h3
      subst h1
      subst h2
      subst h3
      subst k1
      refine ⟨Nat.le_refl _, hl, .void, ?_, by simp [I.key]⟩
      unfold V.take
      rw [if_neg (bad_no (by omega) (by simp) (by first | exact .inl rfl | exact .inr rfl) (by simp) (by simp)), if_pos rfl]
    rw [if_neg k1] at h
    by_cases k2 : first = 2
    · rw [if_pos k2] at h
      split at h
      · cases h
      · rename_i c hc
        split at h
        · cases h
        · rename_i hc1
          injection h with h1 h2 h3
          subst h1
          subst h2
          subst h3
          subst k2
          obtain ⟨t1, t2, _⟩ := take_one hc
          refine ⟨by omega, by omega, .truth c, ?_, ?_⟩
          · unfold V.take
            rw [if_neg (bad_no (by omega) (by simp) (by first | exact .inl rfl | exact .inr rfl) (by simp) (by simp)), if_neg (by decide), if_pos rfl, if_pos (by omega)]
          · rw [Nat.add_sub_cancel_left, t2]
            simp only [I.key]
            rw [show ((c : Int) % 256).toNat = c by omega]
    rw [if_neg k2] at h
    by_cases k3 : first = 3
    · rw [if_pos k3] at h
      split at h
      · rename_i h8
        injection h with h1 h2 h3
        subst h1
        subst h2
        subst h3
        subst k3
        have hm := num8_lt (at_ := at_) hb
        have hbb : ∀ c ∈ (bs.drop at_).take 8, c < 256 := fun c hc => hb c (List.mem_of_mem_drop (List.mem_of_mem_take hc))
        have hl8 : ((bs.drop at_).take 8).length = 8 := by simp; omega
        refine ⟨by omega, by omega, .whole (num ((bs.drop at_).take 8) - 9223372036854775808), ?_, ?_⟩
        · unfold V.take
          rw [if_neg (bad_no (by omega) (by simp) (by first | exact .inl rfl | exact .inr rfl) (by simp) (by simp)), if_neg (by decide), if_neg (by decide), if_pos rfl]
        · rw [Nat.add_sub_cancel_left]
          simp only [I.key]
          rw [show ((num ((bs.drop at_).take 8) : Int) - 9223372036854775808 + 9223372036854775808).toNat = num ((bs.drop at_).take 8) by omega, big8_num hl8 hbb]
      · cases h
    rw [if_neg k3] at h
    by_cases k4 : first = 4
    · rw [if_pos k4] at h
      split at h
      · rename_i h8
        split at h
        · cases h
        · rename_i b hu
          injection h with h1 h2 h3
          subst h1
          subst h2
          subst h3
          subst k4
          have hm := num8_lt (at_ := at_) hb
          have hbb : ∀ c ∈ (bs.drop at_).take 8, c < 256 := fun c hc => hb c (List.mem_of_mem_drop (List.mem_of_mem_take hc))
          have hl8 : ((bs.drop at_).take 8).length = 8 := by simp; omega
          refine ⟨by omega, by omega, .number b, ?_, ?_⟩
          · unfold V.take
            rw [if_neg (bad_no (by omega) (by simp) (by first | exact .inl rfl | exact .inr rfl) (by simp) (by simp)), if_neg (by decide), if_neg (by decide), if_neg (by decide), if_pos rfl]
          · rw [Nat.add_sub_cancel_left]
            simp only [I.key]
            rw [key_unkey hm hu, big8_num hl8 hbb]
      · cases h
    rw [if_neg k4] at h
    by_cases k5 : first = 5
    · rw [if_pos k5] at h
      split at h
      · cases h
      · cases h
      · rename_i t q' ht
        split at h
        · cases h
        · rename_i hr
          injection h with h1 h2 h3
          subst h1
          subst h2
          subst h3
          subst k5
          obtain ⟨u, e1, e2, e3, e4⟩ := ptext_key _ _ _ _ _ _ (Nat.le_refl _) (fun c hc => hb c (List.mem_of_mem_drop hc)) ht
          rw [List.nil_append] at e1
          subst e1
          rw [List.length_drop] at e4
          have hz : (strB (u.map UInt8.toNat)).size = (u.map UInt8.toNat).length := by rw [strB_map, List.length_map]; simp [ByteArray.size]
          refine ⟨e3, by omega, .text (strB (u.map UInt8.toNat)), ?_, ?_⟩
          · unfold V.take
            rw [if_neg (bad_no (by omega) (by simp) (by first | exact .inl rfl | exact .inr rfl) (by simp) (by simp)), if_neg (by decide), if_neg (by decide), if_neg (by decide), if_neg (by decide), if_pos rfl, if_pos (by omega)]
            congr 1
            omega
          · rw [← e2, strB_map]
            simp [I.key]
    rw [if_neg k5] at h
    by_cases k6 : first = 6
    · rw [if_pos k6] at h
      subst k6
      obtain ⟨e1, e2, l, xs, e3, e4, e5⟩ := plist_back n bs (nest + 1) at_ (room - 1) [] v q rm hb (by omega) hl h
      rw [List.nil_append] at e3
      subst e3
      refine ⟨e1, e2, .list xs, ?_, ?_⟩
      · unfold V.take
        rw [if_neg (bad_no (by omega) (by simp) (by first | exact .inl rfl | exact .inr rfl) (by simp) (by simp)), if_neg (by decide), if_neg (by decide), if_neg (by decide), if_neg (by decide), if_neg (by decide), if_pos rfl, if_neg (by omega), e4]
        rfl
      · rw [← e5]
        simp only [I.key]
    rw [if_neg k6] at h
    cases h
theorem plist_back : ∀ (n : Nat) (bs : List Nat) (nest at_ : Nat) (room : Int) (acc : List V) (v : V) (q : Nat) (rm : Int), (∀ c ∈ bs, c < 256) → nest ≤ 8 → at_ ≤ bs.length → plist n bs nest at_ room acc = .ok v q rm →
    at_ ≤ q ∧ q ≤ bs.length ∧ ∃ l xs, v = .mk 6 0 0 ⟨#[]⟩ (acc ++ l) ∧ takes l nest room = (some xs, rm) ∧ keys xs ++ [0] = (bs.drop at_).take (q - at_)
  | 0, bs, nest, at_, room, acc, v, q, rm, hb, hn, hl, h => by simp [plist] at h
  | n + 1, bs, nest, at_, room, acc, v, q, rm, hb, hn, hl, h => by
    unfold plist at h
    split at h
    · cases h
    · rename_i c hc
      obtain ⟨t1, t2, t3⟩ := take_one hc
      split at h
      · rename_i h0
        injection h with h1 h2 h3
        subst h1
        subst h2
        subst h3
        subst h0
        refine ⟨by omega, by omega, [], [], by simp, by simp [takes], ?_⟩
        rw [Nat.add_sub_cancel_left, t2]
        rfl
      · split at h
        · cases h
        · rename_i x q' rm' hx
          obtain ⟨a1, a2, y, a3, a4⟩ := pval_back n bs c nest (at_ + 1) room x q' rm' hb hn (by omega) hx
          obtain ⟨b1, b2, l, xs, b3, b4, b5⟩ := plist_back n bs nest q' rm' (acc ++ [x]) v q rm hb hn a2 h
          refine ⟨by omega, b2, x :: l, y :: xs, by rw [b3]; simp, by simp only [takes, a3, b4, Option.map_some], ?_⟩
          simp only [keys, List.append_assoc]
          rw [b5, a4, t3, show q - at_ = (q' - (at_ + 1)) + (q - q') + 1 by omega, List.take_succ_cons, List.take_add, List.drop_drop, show at_ + 1 + (q' - (at_ + 1)) = q' by omega]
          rfl
end
theorem read_back {bs : List Nat} (hb : ∀ c ∈ bs, c < 256) {v : V} {q : Nat} {rm : Int} (h : pread bs = .ok v q rm) : q ≤ bs.length ∧ ∃ x, v.item = some x ∧ x.key = bs.take q := by
  unfold pread at h
  cases hc : bs[0]? with
  | none => rw [hc] at h; cases h
  | some c =>
    rw [hc] at h
    obtain ⟨t1, t2, t3⟩ := take_one hc
    obtain ⟨e1, e2, x, e3, e4⟩ := pval_back _ bs c 0 1 65536 v q rm hb (by omega) (by omega) h
    refine ⟨e2, x, by unfold V.item; rw [e3], ?_⟩
    rw [e4]
    rw [List.drop_zero] at t3
    conv => rhs; rw [t3]
    rw [show q = (q - 1) + 1 by omega, List.take_succ_cons]
    rfl
end Go.Proofs.Ytffdfegelgpniaa
