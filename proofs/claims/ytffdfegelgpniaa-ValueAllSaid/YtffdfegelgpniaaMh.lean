/-
  ValueBack: the plain law: a key, read, is the item's value; what is read is a value whose key was read.
-/
import Derived.Test.YtffdfegelgpniaaZKa
import Derived.Test.YtffdfegelgpniaaMf
set_option linter.unusedSimpArgs false
set_option linter.unusedVariables false
set_option linter.unusedSimpArgs false
set_option linter.unusedVariables false
namespace Go.Proofs.Ytffdfegelgpniaa
open Go.RowKit Go.Fl

mutual
/-- The value that an item comes to. -/
def I.toV : I → V
  | .void => .mk 1 0 0 ⟨#[]⟩ []
  | .truth n => .mk 2 n 0 ⟨#[]⟩ []
  | .whole n => .mk 3 n 0 ⟨#[]⟩ []
  | .number b => .mk 4 0 (canR b) ⟨#[]⟩ []
  | .text t => .mk 5 0 0 t []
  | .list l => .mk 6 0 0 ⟨#[]⟩ (toVs l)
def toVs : List I → List V
  | [] => []
  | x :: l => x.toV :: toVs l
end
mutual
def I.fits : I → Nat → Prop
  | .void, _ => True
  | .truth _, _ => True
  | .whole _, _ => True
  | .number _, _ => True
  | .text _, _ => True
  | .list l, nest => nest < 8 ∧ Fits l (nest + 1)
def Fits : List I → Nat → Prop
  | [], _ => True
  | x :: l, nest => x.fits nest ∧ Fits l nest
end
mutual
theorem take_fits : ∀ (v : V) (nest : Nat) (room : Int) (x : I), (v.take nest room).1 = some x → x.fits nest
  | .mk k i r t l, nest, room, x, h => by
    unfold V.take at h
    by_cases hb : bad k i r t l.length (room - 1) = true
    · rw [if_pos hb] at h; cases h
    rw [if_neg hb] at h
    by_cases k1 : k = 1
    · rw [if_pos k1] at h; injection h with h; subst h; trivial
    rw [if_neg k1] at h
    by_cases k2 : k = 2
    · rw [if_pos k2] at h
      split at h
      · injection h with h; subst h; trivial
      · cases h
    rw [if_neg k2] at h
    by_cases k3 : k = 3
    · rw [if_pos k3] at h; injection h with h; subst h; trivial
    rw [if_neg k3] at h
    by_cases k4 : k = 4
    · rw [if_pos k4] at h; injection h with h; subst h; trivial
    rw [if_neg k4] at h
    by_cases k5 : k = 5
    · rw [if_pos k5] at h
      split at h
      · injection h with h; subst h; trivial
      · cases h
    rw [if_neg k5] at h
    by_cases k6 : k = 6
    · rw [if_pos k6] at h
      split at h
      · cases h
      · rename_i hn
        cases hh : (takes l (nest + 1) (room - 1)).1 with
        | none => simp only [hh] at h; cases h
        | some xs =>
          simp only [hh] at h
          injection h with h
          subst h
          exact ⟨by omega, takes_fits l (nest + 1) (room - 1) xs hh⟩
    rw [if_neg k6] at h
    cases h
theorem takes_fits : ∀ (l : List V) (nest : Nat) (room : Int) (xs : List I), (takes l nest room).1 = some xs → Fits xs nest
  | [], nest, room, xs, h => by
    simp [takes] at h
    subst h
    trivial
  | v :: l, nest, room, xs, h => by
    cases hh : v.take nest room with
    | mk a b =>
      cases a with
      | none => simp [takes, hh] at h
      | some y =>
        simp only [takes, hh] at h
        cases hl : (takes l nest b).1 with
        | none => rw [hl] at h; cases h
        | some ys =>
          rw [hl] at h
          injection h with h
          subst h
          exact ⟨take_fits v nest room y (by rw [hh]), takes_fits l nest b ys hl⟩
end
theorem num_big8 {m : Nat} (h : m < 18446744073709551616) : num (big8 m) = m := by
  simp only [num, big8, List.foldl]
  omega
theorem big8_num {l : List Nat} (hl : l.length = 8) (hb : ∀ c ∈ l, c < 256) : big8 (num l) = l := by
  match l, hl, hb with
  | [a, b, c, d, e, f, g, h], _, hb =>
    simp only [List.mem_cons, List.not_mem_nil, or_false, forall_eq_or_imp, forall_eq] at hb
    obtain ⟨h1, h2, h3, h4, h5, h6, h7, h8⟩ := hb
    simp only [num, big8, List.foldl, List.cons.injEq, and_true]
    omega
theorem unkey_key {b : Nat} (h : b < 18446744073709551616) : unkeyR (keyR b) = some (canR b) := by
  unfold unkeyR keyR canR
  by_cases h1 : nanB b = true
  · simp [if_pos h1]
  · rw [if_neg h1, if_neg h1]
    unfold nanB at h1
    simp at h1
    by_cases h2 : 9223372036854775808 ≤ b
    · rw [if_pos h2, if_neg (by omega), if_neg (by omega), if_neg (by omega)]
      congr 1
      omega
    · rw [if_neg h2, if_neg (by omega), if_neg (by omega), if_pos (by omega), Nat.add_sub_cancel]
theorem key_unkey {k b : Nat} (h : k < 18446744073709551616) (hu : unkeyR k = some b) : keyR b = k := by
  unfold unkeyR at hu
  split at hu
  · replace hu := Option.some.inj hu
    subst hu
    rename_i hk
    rw [hk]
    unfold keyR
    rw [if_pos (by unfold nanB; decide)]
  · split at hu
    · cases hu
    · rename_i h1 h2
      split at hu
      · rename_i h3
        replace hu := Option.some.inj hu
        subst hu
        unfold keyR
        rw [if_neg (by unfold nanB; simp; omega), if_neg (by omega)]
        omega
      · rename_i h3
        replace hu := Option.some.inj hu
        subst hu
        unfold keyR
        rw [if_neg (by unfold nanB; simp; omega), if_pos (by omega)]
        omega
theorem ptext_esc : ∀ (t : List UInt8) (pos : Nat) (acc tl : List Nat), ptext (esc t ++ (0 :: 1 :: tl)) pos acc = .done (acc ++ t.map UInt8.toNat) (pos + (esc t).length + 2)
  | [], pos, acc, tl => by simp [esc, ptext]
  | c :: t, pos, acc, tl => by
    by_cases hc : c = 0
    · subst hc
      have ih := ptext_esc t (pos + 2) (acc ++ [0]) tl
      simp only [esc, if_true, List.append_assoc, List.cons_append, List.nil_append, ptext, if_neg (show ¬ (255 : Nat) = 1 by decide)]
      rw [ih]
      simp
      omega
    · have hz : c.toNat ≠ 0 := fun h => hc (UInt8.toNat_inj.1 h)
      have ih := ptext_esc t (pos + 1) (acc ++ [c.toNat]) tl
      simp only [esc, if_neg hc, List.append_assoc, List.cons_append, List.nil_append]
      rw [ptext_ne hz, ih]
      simp
      omega
theorem strB_toNat (t : ByteArray) : strB (t.data.toList.map UInt8.toNat) = t := by
  unfold strB
  rw [List.map_map]
  have : (UInt8.ofNat ∘ UInt8.toNat) = id := by funext x; simp
  rw [this, List.map_id]
theorem at_cons {bs : List Nat} {n c : Nat} {l : List Nat} (h : bs.drop n = c :: l) : bs[n]? = some c := by
  have := congrArg (fun l => l[0]?) h
  simpa [List.getElem?_drop] using this
theorem drop_more {bs u l : List Nat} {n : Nat} (h : bs.drop n = u ++ l) : bs.drop (n + u.length) = l := by
  rw [← List.drop_drop, h, List.drop_left]
theorem drop_len {bs u l : List Nat} {n : Nat} (h : bs.drop n = u ++ l) (hu : 0 < u.length) : n + u.length ≤ bs.length := by
  have := congrArg List.length h
  simp at this
  omega
mutual
theorem pval_key : ∀ (x : I) (n : Nat) (bs : List Nat) (nest at_ : Nat) (room : Int) (tl : List Nat), x.Good → x.fits nest → (x.size : Int) ≤ room → 2 * x.key.length ≤ n → bs.drop at_ = x.rest ++ tl →
    pval n bs x.kind.toNat nest at_ room = .ok x.toV (at_ + x.rest.length) (room - x.size)
  | x, 0, bs, nest, at_, room, tl, hg, hf, hs, hn, hd => by
    rw [I.key_eq] at hn
    simp at hn
  | .void, n + 1, bs, nest, at_, room, tl, hg, hf, hs, hn, hd => by
    have hs : (1 : Int) ≤ room := hs
    unfold pval
    show (if (1 : Nat) = 6 ∧ nest = 8 then _ else _) = _
    rw [if_neg (by simp), if_neg (by simp only [show (I.void.kind.toNat : Nat) = 1 from rfl]; omega)]
    rfl
  | .truth i, n + 1, bs, nest, at_, room, tl, hg, hf, hs, hn, hd => by
    have hs : (1 : Int) ≤ room := hs
    have hg : i = 0 ∨ i = 1 := hg
    have hb : bs[at_]? = some (i % 256).toNat := at_cons hd
    show pval (n + 1) bs 2 nest at_ room = .ok (.mk 2 i 0 ⟨#[]⟩ []) (at_ + 1) (room - 1)
    unfold pval
    rw [if_neg (by simp), if_neg (by omega), if_neg (by decide), if_pos rfl, hb]
    dsimp only
    rw [if_neg (by omega), show (((i % 256).toNat : Nat) : Int) = i by omega]
  | .whole i, n + 1, bs, nest, at_, room, tl, hg, hf, hs, hn, hd => by
    have hs : (1 : Int) ≤ room := hs
    have hg : -9223372036854775808 ≤ i ∧ i ≤ 9223372036854775807 := hg
    have hd : bs.drop at_ = big8 (i + 9223372036854775808).toNat ++ tl := hd
    have h8 := drop_len hd (by simp [big8])
    have hl : (big8 (i + 9223372036854775808).toNat).length = 8 := rfl
    show pval (n + 1) bs 3 nest at_ room = .ok (.mk 3 i 0 ⟨#[]⟩ []) (at_ + 8) (room - 1)
    unfold pval
    rw [if_neg (by simp), if_neg (by omega), if_neg (by decide), if_neg (by decide), if_pos rfl, if_pos (by omega), hd, List.take_left' hl, num_big8 (by omega), show (((i + 9223372036854775808).toNat : Nat) : Int) - 9223372036854775808 = i by omega]
  | .number b, n + 1, bs, nest, at_, room, tl, hg, hf, hs, hn, hd => by
    have hs : (1 : Int) ≤ room := hs
    have hg : b < 18446744073709551616 := hg
    have hd : bs.drop at_ = big8 (keyR b) ++ tl := hd
    have h8 := drop_len hd (by simp [big8])
    have hl : (big8 (keyR b)).length = 8 := rfl
    show pval (n + 1) bs 4 nest at_ room = .ok (.mk 4 0 (canR b) ⟨#[]⟩ []) (at_ + 8) (room - 1)
    unfold pval
    rw [if_neg (by simp), if_neg (by omega), if_neg (by decide), if_neg (by decide), if_neg (by decide), if_pos rfl, if_pos (by omega), hd, List.take_left' hl, num_big8 (keyR_lt hg), unkey_key hg]
  | .text t, n + 1, bs, nest, at_, room, tl, hg, hf, hs, hn, hd => by
    have hs : ((1 + t.size : Nat) : Int) ≤ room := hs
    have hd : bs.drop at_ = (esc t.data.toList ++ [0, 1]) ++ tl := hd
    have ht : (t.data.toList.map UInt8.toNat).length = t.size := by rw [List.length_map]; exact Array.length_toList
    show pval (n + 1) bs 5 nest at_ room = .ok (.mk 5 0 0 t []) (at_ + (esc t.data.toList ++ [0, 1]).length) (room - ((1 + t.size : Nat) : Int))
    unfold pval
    rw [if_neg (by simp), if_neg (by omega), if_neg (by decide), if_neg (by decide), if_neg (by decide), if_neg (by decide), if_pos rfl, hd, List.append_assoc]
    rw [show ([0, 1] ++ tl : List Nat) = 0 :: 1 :: tl from rfl, ptext_esc]
    dsimp only
    rw [List.nil_append, ht, if_neg (by omega), strB_toNat]
    simp
    omega
  | .list l, n + 1, bs, nest, at_, room, tl, hg, hf, hs, hn, hd => by
    have hs : ((1 + sizes l : Nat) : Int) ≤ room := hs
    have hd : bs.drop at_ = (keys l ++ [0]) ++ tl := hd
    have hf : nest < 8 ∧ Fits l (nest + 1) := hf
    have hn : 2 * (6 :: (keys l ++ [0])).length ≤ n + 1 := hn
    simp at hn
    show pval (n + 1) bs 6 nest at_ room = .ok (.mk 6 0 0 ⟨#[]⟩ (toVs l)) (at_ + (keys l ++ [0]).length) (room - ((1 + sizes l : Nat) : Int))
    unfold pval
    rw [if_neg (by omega), if_neg (by omega), if_neg (by decide), if_neg (by decide), if_neg (by decide), if_neg (by decide), if_neg (by decide), if_pos rfl]
    rw [plist_key l n bs (nest + 1) at_ (room - 1) [] tl hg hf.2 (by omega) (by omega) (by rw [hd]; simp)]
    simp
    omega
theorem plist_key : ∀ (l : List I) (n : Nat) (bs : List Nat) (nest at_ : Nat) (room : Int) (acc : List V) (tl : List Nat), Goods l → Fits l nest → (sizes l : Int) ≤ room → 2 * (keys l).length + 1 ≤ n → bs.drop at_ = keys l ++ (0 :: tl) →
    plist n bs nest at_ room acc = .ok (.mk 6 0 0 ⟨#[]⟩ (acc ++ toVs l)) (at_ + (keys l).length + 1) (room - sizes l)
  | _, 0, bs, nest, at_, room, acc, tl, hg, hf, hs, hn, hd => by omega
  | [], n + 1, bs, nest, at_, room, acc, tl, hg, hf, hs, hn, hd => by
    unfold plist
    rw [at_cons (l := tl) (c := 0) hd]
    simp [toVs, keys, sizes]
  | x :: l, n + 1, bs, nest, at_, room, acc, tl, hg, hf, hs, hn, hd => by
    have hd : bs.drop at_ = (x.key ++ keys l) ++ (0 :: tl) := hd
    have hs : ((x.size + sizes l : Nat) : Int) ≤ room := hs
    have hn : 2 * (x.key ++ keys l).length + 1 ≤ n + 1 := hn
    have hk := x.kind_pos
    rw [I.key_eq] at hd
    simp only [List.cons_append, List.append_assoc] at hd
    rw [List.length_append] at hn
    have hkl : x.key.length = x.rest.length + 1 := by rw [I.key_eq]; rfl
    have hd1 := drop_more (u := [x.kind.toNat]) hd
    simp only [List.length_singleton] at hd1
    unfold plist
    rw [at_cons hd]
    dsimp only
    rw [if_neg (by omega), pval_key x n bs nest (at_ + 1) room (keys l ++ 0 :: tl) hg.1 hf.1 (by omega) (by omega) hd1]
    dsimp only
    rw [plist_key l n bs nest (at_ + 1 + x.rest.length) (room - x.size) (acc ++ [x.toV]) tl hg.2 hf.2 (by omega) (by omega) (drop_more hd1)]
    simp only [toVs, keys, sizes, List.append_assoc, List.cons_append, List.nil_append, List.length_append, hkl]
    congr 1 <;> omega
end
theorem read_key {x : I} (hg : x.Good) (hf : x.fits 0) (hs : x.size ≤ 65536) (tl : List Nat) : pread (x.key ++ tl) = .ok x.toV x.key.length (65536 - (x.size : Int)) := by
  have hk := I.key_eq x
  unfold pread
  rw [hk]
  dsimp only [List.cons_append, List.getElem?_cons_zero]
  have h := pval_key x (2 * (x.kind.toNat :: (x.rest ++ tl)).length + 4) (x.kind.toNat :: (x.rest ++ tl)) 0 1 65536 tl hg hf (by omega) (by rw [hk]; simp; omega) rfl
  rw [h]
  congr 1
  simp
  omega
end Go.Proofs.Ytffdfegelgpniaa
/-
  ValueBack: the plain law: what is read is a value whose key was read.
-/
set_option linter.unusedSimpArgs false
set_option linter.unusedVariables false
namespace Go.Proofs.Ytffdfegelgpniaa
open Go.RowKit Go.Fl

theorem ptext_key : ∀ (n : Nat) (l : List Nat) (pos : Nat) (acc t : List Nat) (q : Nat), l.length ≤ n → (∀ c ∈ l, c < 256) → ptext l pos acc = .done t q →
    ∃ u : List UInt8, t = acc ++ u.map UInt8.toNat ∧ esc u ++ [0, 1] = l.take (q - pos) ∧ pos ≤ q ∧ q ≤ pos + l.length
  | n, [], pos, acc, t, q, _, _, h => by simp [ptext] at h
  | 0, c :: l, pos, acc, t, q, hl, _, h => by simp at hl
  | n + 1, c :: l, pos, acc, t, q, hl, hb, h => by
    by_cases hc : c = 0
    · subst hc
      cases l with
      | nil => simp [ptext] at h
      | cons d l =>
        simp only [ptext, if_true] at h
        split at h
        · rename_i h1
          injection h with h2 h3
          subst h1
          subst h2
          subst h3
          exact ⟨[], by simp, by rw [Nat.add_sub_cancel_left]; rfl, by omega, by simp⟩
        · split at h
          · rename_i h1
            subst h1
            obtain ⟨u, e1, e2, e3, e4⟩ := ptext_key n l (pos + 2) _ t q (by simp at hl; omega) (fun c hc => hb c (by simp [hc])) h
            refine ⟨0 :: u, by rw [e1]; simp, ?_, by omega, by simp; omega⟩
            rw [show q - pos = (q - (pos + 2)) + 2 by omega, List.take_succ_cons, List.take_succ_cons, ← e2]
            simp [esc]
          · cases h
    · rw [ptext_ne hc] at h
      obtain ⟨u, e1, e2, e3, e4⟩ := ptext_key n l (pos + 1) _ t q (by simpa using hl) (fun c hc => hb c (by simp [hc])) h
      have hc256 := hb c (by simp)
      have hcn : (UInt8.ofNat c).toNat = c := by simp; omega
      have hcz : UInt8.ofNat c ≠ 0 := fun e => hc (by rw [← hcn, e]; rfl)
      refine ⟨UInt8.ofNat c :: u, by rw [e1]; simp [hcn], ?_, by omega, by simp; omega⟩
      rw [show q - pos = (q - (pos + 1)) + 1 by omega, List.take_succ_cons, ← e2]
      simp only [esc, if_neg hcz, hcn, List.append_assoc, List.cons_append, List.nil_append]
theorem take_one {bs : List Nat} {n c : Nat} (h : bs[n]? = some c) : n < bs.length ∧ (bs.drop n).take 1 = [c] ∧ bs.drop n = c :: bs.drop (n + 1) := by
  have hn : n < bs.length := by
    by_cases hh : n < bs.length
    · exact hh
    · rw [List.getElem?_eq_none (by omega)] at h; cases h
  rw [List.getElem?_eq_getElem hn] at h
  injection h with h
  have e : bs.drop n = c :: bs.drop (n + 1) := by rw [List.drop_eq_getElem_cons hn, h]
  exact ⟨hn, by rw [e]; rfl, e⟩
theorem strB_map (u : List UInt8) : strB (u.map UInt8.toNat) = ⟨u.toArray⟩ := by
  have := strB_toNat ⟨u.toArray⟩
  simpa using this
theorem bad_no {k i : Int} {r : Nat} {t : ByteArray} {n : Nat} {room : Int} (h0 : 0 ≤ room) (h1 : k = 6 ∨ n = 0) (h2 : k = 5 ∨ t.size = 0) (h3 : k = 4 ∨ r = 0) (h4 : i = 0 ∨ k = 3 ∨ k = 2) : ¬ bad k i r t n room = true := by
  unfold bad
  simp only [Bool.or_eq_true, Bool.and_eq_true, decide_eq_true_eq]
  omega
mutual
theorem pval_back : ∀ (n : Nat) (bs : List Nat) (c nest at_ : Nat) (room : Int) (v : V) (q : Nat) (rm : Int), (∀ c ∈ bs, c < 256) → nest ≤ 8 → at_ ≤ bs.length → pval n bs c nest at_ room = .ok v q rm →
    at_ ≤ q ∧ q ≤ bs.length ∧ ∃ x, v.take nest room = (some x, rm) ∧ x.key = c :: (bs.drop at_).take (q - at_)
  | 0, bs, c, nest, at_, room, v, q, rm, hb, hn, hl, h => by simp [pval] at h
  | n + 1, bs, first, nest, at_, room, v, q, rm, hb, hn, hl, h => by
    unfold pval at h
    by_cases c1 : first = 6 ∧ nest = 8
    · rw [if_pos c1] at h; cases h
    rw [if_neg c1] at h
    by_cases c2 : first ≠ 5 ∧ 1 ≤ first ∧ first ≤ 6 ∧ room - 1 < 0
    · rw [if_pos c2] at h; cases h
    rw [if_neg c2] at h
    by_cases k1 : first = 1
    · rw [if_pos k1] at h
      injection h with h1 h2 h3
      subst h1
      subst h2
      subst h3
      subst k1
      refine ⟨Nat.le_refl _, hl, .void, ?_, by simp [I.key]⟩
      unfold V.take
      rw [if_neg (bad_no (by omega) (by simp) (by first | exact .inl rfl | exact .inr rfl) (by simp) (by simp)), if_pos rfl]
    rw [if_neg k1] at h
    by_cases k2 : first = 2
    · rw [if_pos k2] at h
      split at h
      · cases h
      · rename_i c hc
        split at h
        · cases h
        · rename_i hc1
          injection h with h1 h2 h3
          subst h1
          subst h2
          subst h3
          subst k2
          obtain ⟨t1, t2, _⟩ := take_one hc
          refine ⟨by omega, by omega, .truth c, ?_, ?_⟩
          · unfold V.take
            rw [if_neg (bad_no (by omega) (by simp) (by first | exact .inl rfl | exact .inr rfl) (by simp) (by simp)), if_neg (by decide), if_pos rfl, if_pos (by omega)]
          · rw [Nat.add_sub_cancel_left, t2]
            simp only [I.key]
            rw [show ((c : Int) % 256).toNat = c by omega]
    rw [if_neg k2] at h
    by_cases k3 : first = 3
    · rw [if_pos k3] at h
      split at h
      · rename_i h8
        injection h with h1 h2 h3
        subst h1
        subst h2
        subst h3
        subst k3
        have hm := num8_lt (at_ := at_) hb
        have hbb : ∀ c ∈ (bs.drop at_).take 8, c < 256 := fun c hc => hb c (List.mem_of_mem_drop (List.mem_of_mem_take hc))
        have hl8 : ((bs.drop at_).take 8).length = 8 := by simp; omega
        refine ⟨by omega, by omega, .whole (num ((bs.drop at_).take 8) - 9223372036854775808), ?_, ?_⟩
        · unfold V.take
          rw [if_neg (bad_no (by omega) (by simp) (by first | exact .inl rfl | exact .inr rfl) (by simp) (by simp)), if_neg (by decide), if_neg (by decide), if_pos rfl]
        · rw [Nat.add_sub_cancel_left]
          simp only [I.key]
          rw [show ((num ((bs.drop at_).take 8) : Int) - 9223372036854775808 + 9223372036854775808).toNat = num ((bs.drop at_).take 8) by omega, big8_num hl8 hbb]
      · cases h
    rw [if_neg k3] at h
    by_cases k4 : first = 4
    · rw [if_pos k4] at h
      split at h
      · rename_i h8
        split at h
        · cases h
        · rename_i b hu
          injection h with h1 h2 h3
          subst h1
          subst h2
          subst h3
          subst k4
          have hm := num8_lt (at_ := at_) hb
          have hbb : ∀ c ∈ (bs.drop at_).take 8, c < 256 := fun c hc => hb c (List.mem_of_mem_drop (List.mem_of_mem_take hc))
          have hl8 : ((bs.drop at_).take 8).length = 8 := by simp; omega
          refine ⟨by omega, by omega, .number b, ?_, ?_⟩
          · unfold V.take
            rw [if_neg (bad_no (by omega) (by simp) (by first | exact .inl rfl | exact .inr rfl) (by simp) (by simp)), if_neg (by decide), if_neg (by decide), if_neg (by decide), if_pos rfl]
          · rw [Nat.add_sub_cancel_left]
            simp only [I.key]
            rw [key_unkey hm hu, big8_num hl8 hbb]
      · cases h
    rw [if_neg k4] at h
    by_cases k5 : first = 5
    · rw [if_pos k5] at h
      split at h
      · cases h
      · cases h
      · rename_i t q' ht
        split at h
        · cases h
        · rename_i hr
          injection h with h1 h2 h3
          subst h1
          subst h2
          subst h3
          subst k5
          obtain ⟨u, e1, e2, e3, e4⟩ := ptext_key _ _ _ _ _ _ (Nat.le_refl _) (fun c hc => hb c (List.mem_of_mem_drop hc)) ht
          rw [List.nil_append] at e1
          subst e1
          rw [List.length_drop] at e4
          have hz : (strB (u.map UInt8.toNat)).size = (u.map UInt8.toNat).length := by rw [strB_map, List.length_map]; simp [ByteArray.size]
          refine ⟨e3, by omega, .text (strB (u.map UInt8.toNat)), ?_, ?_⟩
          · unfold V.take
            rw [if_neg (bad_no (by omega) (by simp) (by first | exact .inl rfl | exact .inr rfl) (by simp) (by simp)), if_neg (by decide), if_neg (by decide), if_neg (by decide), if_neg (by decide), if_pos rfl, if_pos (by omega)]
            congr 1
            omega
          · rw [← e2, strB_map]
            simp [I.key]
    rw [if_neg k5] at h
    by_cases k6 : first = 6
    · rw [if_pos k6] at h
      subst k6
      obtain ⟨e1, e2, l, xs, e3, e4, e5⟩ := plist_back n bs (nest + 1) at_ (room - 1) [] v q rm hb (by omega) hl h
      rw [List.nil_append] at e3
      subst e3
      refine ⟨e1, e2, .list xs, ?_, ?_⟩
      · unfold V.take
        rw [if_neg (bad_no (by omega) (by simp) (by first | exact .inl rfl | exact .inr rfl) (by simp) (by simp)), if_neg (by decide), if_neg (by decide), if_neg (by decide), if_neg (by decide), if_neg (by decide), if_pos rfl, if_neg (by omega), e4]
        rfl
      · rw [← e5]
        simp only [I.key]
    rw [if_neg k6] at h
    cases h
theorem plist_back : ∀ (n : Nat) (bs : List Nat) (nest at_ : Nat) (room : Int) (acc : List V) (v : V) (q : Nat) (rm : Int), (∀ c ∈ bs, c < 256) → nest ≤ 8 → at_ ≤ bs.length → plist n bs nest at_ room acc = .ok v q rm →
    at_ ≤ q ∧ q ≤ bs.length ∧ ∃ l xs, v = .mk 6 0 0 ⟨#[]⟩ (acc ++ l) ∧ takes l nest room = (some xs, rm) ∧ keys xs ++ [0] = (bs.drop at_).take (q - at_)
  | 0, bs, nest, at_, room, acc, v, q, rm, hb, hn, hl, h => by simp [plist] at h
  | n + 1, bs, nest, at_, room, acc, v, q, rm, hb, hn, hl, h => by
    unfold plist at h
    split at h
    · cases h
    · rename_i c hc
      obtain ⟨t1, t2, t3⟩ := take_one hc
      split at h
      · rename_i h0
        injection h with h1 h2 h3
        subst h1
        subst h2
        subst h3
        subst h0
        refine ⟨by omega, by omega, [], [], by simp, by simp [takes], ?_⟩
        rw [Nat.add_sub_cancel_left, t2]
        rfl
      · split at h
        · cases h
        · rename_i x q' rm' hx
          obtain ⟨a1, a2, y, a3, a4⟩ := pval_back n bs c nest (at_ + 1) room x q' rm' hb hn (by omega) hx
          obtain ⟨b1, b2, l, xs, b3, b4, b5⟩ := plist_back n bs nest q' rm' (acc ++ [x]) v q rm hb hn a2 h
          refine ⟨by omega, b2, x :: l, y :: xs, by rw [b3]; simp, by simp only [takes, a3, b4, Option.map_some], ?_⟩
          simp only [keys, List.append_assoc]
          rw [b5, a4, t3, show q - at_ = (q' - (at_ + 1)) + (q - q') + 1 by omega, List.take_succ_cons, List.take_add, List.drop_drop, show at_ + 1 + (q' - (at_ + 1)) = q' by omega]
          rfl
end
theorem read_back {bs : List Nat} (hb : ∀ c ∈ bs, c < 256) {v : V} {q : Nat} {rm : Int} (h : pread bs = .ok v q rm) : q ≤ bs.length ∧ ∃ x, v.item = some x ∧ x.key = bs.take q := by
  unfold pread at h
  cases hc : bs[0]? with
  | none => rw [hc] at h; cases h
  | some c =>
    rw [hc] at h
    obtain ⟨t1, t2, t3⟩ := take_one hc
    obtain ⟨e1, e2, x, e3, e4⟩ := pval_back _ bs c 0 1 65536 v q rm hb (by omega) (by omega) h
    refine ⟨e2, x, by unfold V.item; rw [e3], ?_⟩
    rw [e4]
    rw [List.drop_zero] at t3
    conv => rhs; rw [t3]
    rw [show q = (q - 1) + 1 by omega, List.take_succ_cons]
    rfl
end Go.Proofs.Ytffdfegelgpniaa
