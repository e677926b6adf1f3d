/-
  The keys' plain law.
-/
import Derived.Test.YtffdfegelgpniaaXr
set_option linter.unusedSimpArgs false
set_option linter.unusedVariables false
namespace Go.Proofs.Ytffdfegelgpniaa
open Go.RowKit Go.Fl

/-- One stands ahead of another, byte by byte, and is no front of it. -/
def Less (u v : List Nat) : Prop := ∃ p a b s t, u = p ++ a :: s ∧ v = p ++ b :: t ∧ a < b
theorem Less.tail {u v : List Nat} (h : Less u v) (s t : List Nat) : Less (u ++ s) (v ++ t) := by
  obtain ⟨p, a, b, s', t', rfl, rfl, hl⟩ := h
  exact ⟨p, a, b, s' ++ s, t' ++ t, by simp, by simp, hl⟩
theorem Less.front {u v : List Nat} (h : Less u v) (p : List Nat) : Less (p ++ u) (p ++ v) := by
  obtain ⟨q, a, b, s, t, rfl, rfl, hl⟩ := h
  exact ⟨p ++ q, a, b, s, t, by simp, by simp, hl⟩
theorem Less.cons {u v : List Nat} (h : Less u v) (c : Nat) : Less (c :: u) (c :: v) := h.front [c]
theorem Less.head {a b : Nat} (h : a < b) (s t : List Nat) : Less (a :: s) (b :: t) := ⟨[], a, b, s, t, rfl, rfl, h⟩
/-- The keys stand as the answer says. -/
def Kord (c : Int) (u v : List Nat) : Prop := (c = 0 → u = v) ∧ (c < 0 → Less u v) ∧ (0 < c → Less v u)
theorem Kord.cons {c : Int} {u v : List Nat} (h : Kord c u v) (a : Nat) : Kord c (a :: u) (a :: v) :=
  ⟨fun e => by rw [h.1 e], fun e => (h.2.1 e).cons a, fun e => (h.2.2 e).cons a⟩
theorem Kord.tail {c : Int} {u v : List Nat} (h : Kord c u v) (s : List Nat) : Kord c (u ++ s) (v ++ s) :=
  ⟨fun e => by rw [h.1 e], fun e => (h.2.1 e).tail s s, fun e => (h.2.2 e).tail s s⟩
theorem kord_lt {a b : Int} {u v : List Nat} (h0 : a = b → u = v) (h1 : a < b → Less u v) (h2 : b < a → Less v u) : Kord (cmpI a b) u v := by
  unfold cmpI
  refine ⟨fun e => ?_, fun e => ?_, fun e => ?_⟩
  · split at e
    · cases e
    · split at e
      · cases e
      · exact h0 (by omega)
  · split at e
    · exact h1 (by assumption)
    · split at e <;> omega
  · split at e
    · omega
    · split at e
      · exact h2 (by assumption)
      · omega
theorem big8_lt {n m : Nat} (hm : m < 18446744073709551616) (h : n < m) : Less (big8 n) (big8 m) := by
  unfold big8
  by_cases e7 : n / 2 ^ 56 % 256 = m / 2 ^ 56 % 256
  · rw [e7]; refine Less.cons ?_ _
    by_cases e6 : n / 2 ^ 48 % 256 = m / 2 ^ 48 % 256
    · rw [e6]; refine Less.cons ?_ _
      by_cases e5 : n / 2 ^ 40 % 256 = m / 2 ^ 40 % 256
      · rw [e5]; refine Less.cons ?_ _
        by_cases e4 : n / 2 ^ 32 % 256 = m / 2 ^ 32 % 256
        · rw [e4]; refine Less.cons ?_ _
          by_cases e3 : n / 2 ^ 24 % 256 = m / 2 ^ 24 % 256
          · rw [e3]; refine Less.cons ?_ _
            by_cases e2 : n / 2 ^ 16 % 256 = m / 2 ^ 16 % 256
            · rw [e2]; refine Less.cons ?_ _
              by_cases e1 : n / 2 ^ 8 % 256 = m / 2 ^ 8 % 256
              · rw [e1]; refine Less.cons ?_ _
                exact Less.head (by omega) _ _
              · exact Less.head (by omega) _ _
            · exact Less.head (by omega) _ _
          · exact Less.head (by omega) _ _
        · exact Less.head (by omega) _ _
      · exact Less.head (by omega) _ _
    · exact Less.head (by omega) _ _
  · exact Less.head (by omega) _ _
theorem esc_ord : ∀ (a b : List UInt8), Kord (Lib.compareBytes a b) (esc a ++ [0, 1]) (esc b ++ [0, 1])
  | [], [] => ⟨fun _ => rfl, fun h => absurd h (by show ¬ (0 : Int) < 0; decide), fun h => absurd h (by show ¬ (0 : Int) < 0; decide)⟩
  | [], c :: l => by
    refine ⟨fun h => absurd h (by show ¬ (-1 : Int) = 0; decide), fun _ => ?_, fun h => absurd h (by show ¬ (0 : Int) < -1; decide)⟩
    simp only [esc, List.nil_append, List.append_assoc]
    by_cases h : c = 0
    · rw [if_pos h]; exact Less.cons (Less.head (by decide) _ _) 0
    · rw [if_neg h]; exact Less.head (by have : c.toNat ≠ 0 := fun e => h (UInt8.toNat_inj.1 e); omega) _ _
  | c :: l, [] => by
    refine ⟨fun h => absurd h (by show ¬ (1 : Int) = 0; decide), fun h => absurd h (by show ¬ (1 : Int) < 0; decide), fun _ => ?_⟩
    simp only [esc, List.nil_append, List.append_assoc]
    by_cases h : c = 0
    · rw [if_pos h]; exact Less.cons (Less.head (by decide) _ _) 0
    · rw [if_neg h]; exact Less.head (by have : c.toNat ≠ 0 := fun e => h (UInt8.toNat_inj.1 e); omega) _ _
  | c :: l, d :: m => by
    have ih := esc_ord l m
    have hh : ∀ (c d : UInt8) (s t : List Nat), c.toNat < d.toNat → Less ((if c = 0 then [0, 255] else [c.toNat]) ++ s) ((if d = 0 then [0, 255] else [d.toNat]) ++ t) := fun c d s t h => by
      have hd : d ≠ 0 := fun e => by rw [e] at h; exact absurd h (Nat.not_lt_zero _)
      rw [if_neg hd]
      by_cases hc : c = 0
      · rw [if_pos hc]; exact Less.head (by omega) _ _
      · rw [if_neg hc]; exact Less.head h _ _
    simp only [esc, List.append_assoc]
    rw [bytes_lex]
    by_cases h : cmpI c.toNat d.toNat = 0
    · rw [if_neg (by omega)]
      have e : c = d := UInt8.toNat_inj.1 (by have := cmpI_zero.1 h; omega)
      rw [e]
      exact ⟨fun g => by rw [ih.1 g], fun g => (ih.2.1 g).front _, fun g => (ih.2.2 g).front _⟩
    · rw [if_pos h]
      have hk := kord_lt (a := c.toNat) (b := d.toNat) (u := (if c = 0 then [0, 255] else [c.toNat]) ++ (esc l ++ [0, 1])) (v := (if d = 0 then [0, 255] else [d.toNat]) ++ (esc m ++ [0, 1])) (fun e => absurd (cmpI_zero.2 e) h) (fun g => hh _ _ _ _ (by omega)) (fun g => hh _ _ _ _ (by omega))
      exact hk
theorem i64_rng {n : Int} (h : (Lit.int .i64 n).wf = true) : -9223372036854775808 ≤ n ∧ n ≤ 9223372036854775807 := by
  simp only [Lit.wf, IntKind.min, IntKind.max, IntKind.signed, IntKind.bits, Bool.and_eq_true, decide_eq_true_eq, if_true] at h
  omega
mutual
/-- What an item holds of a value's. -/
def I.Good : I → Prop
  | .void => True
  | .truth n => n = 0 ∨ n = 1
  | .whole n => -9223372036854775808 ≤ n ∧ n ≤ 9223372036854775807
  | .number b => b < 18446744073709551616
  | .text _ => True
  | .list l => Goods l
def Goods : List I → Prop
  | [] => True
  | x :: l => x.Good ∧ Goods l
end
def I.rest : I → List Nat
  | .void => []
  | .truth n => [(n % 256).toNat]
  | .whole n => big8 (n + 9223372036854775808).toNat
  | .number b => big8 (keyR b)
  | .text t => esc t.data.toList ++ [0, 1]
  | .list l => keys l ++ [0]
theorem I.key_eq (x : I) : x.key = x.kind.toNat :: x.rest := by cases x <;> rfl
theorem I.kind_pos (x : I) : 1 ≤ x.kind := by cases x <;> simp [I.kind]
mutual
theorem I.kord : ∀ (x y : I), x.Good → y.Good → Kord (x.cmp y) x.key y.key := fun x y hx hy => by
  by_cases hk : x.kind = y.kind
  · rw [I.key_eq x, I.key_eq y, hk]
    refine Kord.cons ?_ _
    cases x with
    | list l =>
      cases y with
      | list m => exact keys_ord l m hx hy
      | _ => exfalso; simp [I.kind] at hk; done
    | void =>
      cases y <;> first | (exfalso; simp [I.kind] at hk; done) | exact ⟨fun _ => rfl, fun h => absurd h (by decide), fun h => absurd h (by decide)⟩
    | truth n =>
      cases y with
      | truth m =>
        have hx : n = 0 ∨ n = 1 := hx
        have hy : m = 0 ∨ m = 1 := hy
        exact kord_lt (fun e => by rw [e]) (fun h => by
          show Less [(n % 256).toNat] [(m % 256).toNat]
          exact Less.head (by omega) _ _) (fun h => by
          show Less [(m % 256).toNat] [(n % 256).toNat]
          exact Less.head (by omega) _ _)
      | _ => exfalso; simp [I.kind] at hk; done
    | whole n =>
      cases y with
      | whole m =>
        have hx : -9223372036854775808 ≤ n ∧ n ≤ 9223372036854775807 := hx
        have hy : -9223372036854775808 ≤ m ∧ m ≤ 9223372036854775807 := hy
        exact kord_lt (fun e => by rw [e]) (fun h => big8_lt (by omega) (by omega)) (fun h => big8_lt (by omega) (by omega))
      | _ => exfalso; simp [I.kind] at hk; done
    | number n =>
      cases y with
      | number m =>
        have hx := keyR_lt (show n < 18446744073709551616 from hx)
        have hy := keyR_lt (show m < 18446744073709551616 from hy)
        exact kord_lt (fun e => by
          have e : keyR n = keyR m := by omega
          show big8 (keyR n) = big8 (keyR m)
          rw [e]) (fun h => big8_lt (by omega) (by omega)) (fun h => big8_lt (by omega) (by omega))
      | _ => exfalso; simp [I.kind] at hk; done
    | text t =>
      cases y with
      | text s => exact esc_ord _ _
      | _ => exfalso; simp [I.kind] at hk; done
  · rw [cmp_kind hk, I.key_eq x, I.key_eq y]
    have h1 := I.kind_pos x
    have h2 := I.kind_pos y
    exact kord_lt (fun e => absurd e hk) (fun h => Less.head (by omega) _ _) (fun h => Less.head (by omega) _ _)
theorem keys_ord : ∀ (l m : List I), Goods l → Goods m → Kord (cmps l m) (keys l ++ [0]) (keys m ++ [0])
  | [], [], _, _ => ⟨fun _ => rfl, fun h => absurd h (by decide), fun h => absurd h (by decide)⟩
  | [], b :: m, _, _ => by
    have e : cmps [] (b :: m) = -1 := cmpI_lt (by simp only [List.length_cons]; omega)
    rw [e]
    refine ⟨fun h => absurd h (by decide), fun _ => ?_, fun h => absurd h (by decide)⟩
    have := I.kind_pos b
    simp only [keys, I.key_eq b, List.cons_append, List.nil_append]
    exact Less.head (by omega) _ _
  | a :: l, [], _, _ => by
    show Kord 1 _ _
    refine ⟨fun h => absurd h (by decide), fun h => absurd h (by decide), fun _ => ?_⟩
    have := I.kind_pos a
    simp only [keys, I.key_eq a, List.cons_append, List.nil_append]
    exact Less.head (by omega) _ _
  | a :: l, b :: m, ⟨ha, hl⟩, ⟨hb, hm⟩ => by
    have h1 := I.kord a b ha hb
    have h2 := keys_ord l m hl hm
    show Kord (if a.cmp b ≠ 0 then a.cmp b else cmps l m) ((a.key ++ keys l) ++ [0]) ((b.key ++ keys m) ++ [0])
    rw [List.append_assoc, List.append_assoc]
    by_cases h : a.cmp b = 0
    · rw [if_neg (by omega), h1.1 h]
      exact ⟨fun g => by rw [h2.1 g], fun g => (h2.2.1 g).front _, fun g => (h2.2.2 g).front _⟩
    · rw [if_pos h]
      exact ⟨fun g => absurd g h, fun g => (h1.2.1 g).tail _ _, fun g => (h1.2.2 g).tail _ _⟩
end
mutual
theorem take_good {w : World} {F : Nat → Prop} : ∀ (v : V) (cs : List Value) (nest : Nat) (room : Int) (x : I), VIs w F v cs → (v.take nest room).1 = some x → x.Good
  | .mk k i r t l, cs, nest, room, x, hv, h => by
    cases hv with
    | mk css hwk hwi hr _ _ _ _ hl =>
    unfold V.take at h
    by_cases hb : bad k i r t l.length (room - 1) = true
    · rw [if_pos hb] at h; cases h
    rw [if_neg hb] at h
    by_cases k1 : k = 1
    · rw [if_pos k1] at h; injection h with h; subst h; trivial
    rw [if_neg k1] at h
    by_cases k2 : k = 2
    · rw [if_pos k2] at h
      split at h
      · rename_i hi; injection h with h; subst h; exact hi
      · cases h
    rw [if_neg k2] at h
    by_cases k3 : k = 3
    · rw [if_pos k3] at h; injection h with h; subst h; exact i64_rng hwi
    rw [if_neg k3] at h
    by_cases k4 : k = 4
    · rw [if_pos k4] at h; injection h with h; subst h; exact hr
    rw [if_neg k4] at h
    by_cases k5 : k = 5
    · rw [if_pos k5] at h
      split at h
      · injection h with h; subst h; trivial
      · cases h
    rw [if_neg k5] at h
    by_cases k6 : k = 6
    · rw [if_pos k6] at h
      split at h
      · cases h
      · cases hm : (takes l (nest + 1) (room - 1)).1 with
        | none => rw [hm] at h; cases h
        | some xs =>
          rw [hm] at h
          injection h with h
          subst h
          exact takes_good l (nest + 1) (room - 1) xs (fun u hu => by
            obtain ⟨j, hj, rfl⟩ := List.getElem_of_mem hu
            exact ⟨_, hl j hj⟩) hm
    rw [if_neg k6] at h
    cases h
theorem takes_good {w : World} {F : Nat → Prop} : ∀ (l : List V) (nest : Nat) (room : Int) (xs : List I), (∀ u ∈ l, ∃ cs, VIs w F u cs) → (takes l nest room).1 = some xs → Goods xs
  | [], nest, room, xs, _, h => by
    injection h with h
    subst h
    trivial
  | v :: l, nest, room, xs, hv, h => by
    obtain ⟨cs, hc⟩ := hv v (by simp)
    cases hh : v.take nest room with
    | mk a b =>
      cases a with
      | none => simp [takes, hh] at h
      | some x =>
        simp only [takes, hh] at h
        cases hm : (takes l nest b).1 with
        | none => rw [hm] at h; cases h
        | some ys =>
          rw [hm] at h
          injection h with h
          subst h
          exact ⟨take_good v cs nest room x hc (by rw [hh]), takes_good l nest b ys (fun u hu => hv u (by simp [hu])) hm⟩
end
theorem item_good {w : World} {F : Nat → Prop} {v : V} {cs : List Value} (h : VIs w F v cs) {x : I} (hx : v.item = some x) : x.Good := take_good v cs 0 65536 x h hx
end Go.Proofs.Ytffdfegelgpniaa
