/-
  The order's plain law.
-/
import Derived.Test.YtffdfegelgpniaaZVw
set_option linter.unusedSimpArgs false
set_option linter.unusedVariables false
set_option linter.unusedSimpArgs false
set_option linter.unusedVariables false
namespace Go.Proofs.Ytffdfegelgpniaa
open Go.RowKit Go.Fl

/-- How three answers of an order stand. -/
def Tri (a b c : Int) : Prop := a ≤ 0 → b ≤ 0 → c ≤ 0 ∧ (c = 0 ↔ a = 0 ∧ b = 0)
theorem tri_lex {a b c a' b' c' : Int} (h : Tri a b c) (h' : Tri a' b' c') : Tri (if a ≠ 0 then a else a') (if b ≠ 0 then b else b') (if c ≠ 0 then c else c') := by
  unfold Tri at *
  intro h1 h2
  by_cases ha : a = 0 <;> by_cases hb : b = 0 <;> by_cases hc : c = 0 <;> simp only [ha, hb, hc, ne_eq, not_true_eq_false, not_false_eq_true, if_true, if_false] at * <;> first | omega | (simp at *; omega) | (simp at *; done)
theorem tri_cmpI (a b c : Int) : Tri (cmpI a b) (cmpI b c) (cmpI a c) := by
  unfold Tri cmpI
  intro h1 h2
  split at h1 <;> split at h2 <;> (try split at h1) <;> (try split at h2) <;> (repeat' split) <;> omega
theorem neg_cmpI (a b : Int) : cmpI b a = -(cmpI a b) := by
  unfold cmpI
  repeat' split
  all_goals first | omega | rfl
theorem bytes_neg : ∀ a b, Lib.compareBytes b a = -(Lib.compareBytes a b)
  | [], [] => rfl
  | [], _ :: _ => rfl
  | _ :: _, [] => rfl
  | a :: ms, b :: bs => by
    have ih := bytes_neg ms bs
    unfold Lib.compareBytes
    by_cases h1 : a < b
    · have h2 : ¬ b < a := by intro h; exact UInt8.lt_irrefl _ (UInt8.lt_trans h1 h)
      rw [if_neg h2, if_pos h1, if_pos h1]; rfl
    · by_cases h2 : b < a
      · rw [if_pos h2, if_neg h1, if_pos h2]
      · rw [if_neg h2, if_neg h1, if_neg h1, if_neg h2]; exact ih
theorem bytes_lex (a b : UInt8) ( ms bs : List UInt8) : Lib.compareBytes (a :: ms) (b :: bs) = if cmpI a.toNat b.toNat ≠ 0 then cmpI a.toNat b.toNat else Lib.compareBytes ms bs := by
  have h1 : a < b ↔ (a.toNat : Int) < b.toNat := by rw [UInt8.lt_iff_toNat_lt]; omega
  have h2 : b < a ↔ (b.toNat : Int) < a.toNat := by rw [UInt8.lt_iff_toNat_lt]; omega
  show (if a < b then -1 else if b < a then 1 else Lib.compareBytes ms bs) = _
  simp only [h1, h2]
  unfold cmpI
  by_cases g1 : (a.toNat : Int) < b.toNat
  · simp only [if_pos g1]; rfl
  · by_cases g2 : (b.toNat : Int) < a.toNat
    · simp only [if_neg g1, if_pos g2]; rfl
    · simp only [if_neg g1, if_neg g2]; rfl
theorem bytes_tri : ∀ a b c, Tri (Lib.compareBytes a b) (Lib.compareBytes b c) (Lib.compareBytes a c)
  | [], [], [] => by intro _ _; decide
  | [], [], _ :: _ => by intro _ _; show (-1 : Int) ≤ 0 ∧ ((-1 : Int) = 0 ↔ (0 : Int) = 0 ∧ (-1 : Int) = 0); decide
  | [], _ :: _, [] => by intro _ h; exact absurd h (by show ¬ (1 : Int) ≤ 0; decide)
  | [], b :: bs, c :: cs => by
    intro _ h
    show (-1 : Int) ≤ 0 ∧ ((-1 : Int) = 0 ↔ (-1 : Int) = 0 ∧ _)
    omega
  | a :: ms, [], _ => by intro h; exact absurd h (by show ¬ (1 : Int) ≤ 0; decide)
  | a :: ms, b :: bs, [] => by intro _ h; exact absurd h (by show ¬ (1 : Int) ≤ 0; decide)
  | a :: ms, b :: bs, c :: cs => by
    rw [bytes_lex, bytes_lex, bytes_lex]
    exact tri_lex (tri_cmpI _ _ _) (bytes_tri ms bs cs)
mutual
theorem I.neg : ∀ (x y : I), y.cmp x = -(x.cmp y) := fun x y => by
  by_cases hk : x.kind = y.kind
  · cases x with
    | list l =>
      cases y with
      | list m => exact cmps_neg l m
      | void => (exfalso; simp [I.kind] at hk; done)
      | truth => (exfalso; simp [I.kind] at hk; done)
      | whole => (exfalso; simp [I.kind] at hk; done)
      | number => (exfalso; simp [I.kind] at hk; done)
      | text => (exfalso; simp [I.kind] at hk; done)
    | void => cases y <;> first | (exfalso; simp [I.kind] at hk; done) | exact neg_cmpI _ _
    | truth => cases y <;> first | (exfalso; simp [I.kind] at hk; done) | exact neg_cmpI _ _
    | whole => cases y <;> first | (exfalso; simp [I.kind] at hk; done) | exact neg_cmpI _ _
    | number => cases y <;> first | (exfalso; simp [I.kind] at hk; done) | exact neg_cmpI _ _
    | text => cases y <;> first | (exfalso; simp [I.kind] at hk; done) | exact bytes_neg _ _
  · rw [cmp_kind hk, cmp_kind (Ne.symm hk)]
    exact neg_cmpI _ _
theorem cmps_neg : ∀ (l m : List I), cmps m l = -(cmps l m)
  | [], [] => by decide
  | [], b :: m => by
    show (1 : Int) = -(cmpI 0 ((b :: m).length : Nat))
    unfold cmpI
    rw [if_pos (by simp only [List.length_cons]; omega)]
    rfl
  | a :: l, [] => by
    show cmpI 0 ((a :: l).length : Nat) = -(1 : Int)
    unfold cmpI
    rw [if_pos (by simp only [List.length_cons]; omega)]
  | a :: l, b :: m => by
    have h1 := I.neg a b
    have h2 := cmps_neg l m
    show (if b.cmp a ≠ 0 then b.cmp a else cmps m l) = -(if a.cmp b ≠ 0 then a.cmp b else cmps l m)
    by_cases h : a.cmp b = 0
    · rw [if_neg (by omega), if_neg (by omega)]; exact h2
    · rw [if_pos (by omega), if_pos (by omega)]; exact h1
end
theorem lt_cmpI {a b : Int} (h : cmpI a b ≤ 0) (hn : a ≠ b) : a < b := by
  unfold cmpI at h
  split at h
  · assumption
  · split at h <;> omega
theorem cmpI_lt {a b : Int} (h : a < b) : cmpI a b = -1 := by unfold cmpI; rw [if_pos h]
theorem tri_kind {x y z : I} (h : ¬ (x.kind = y.kind ∧ y.kind = z.kind)) : Tri (x.cmp y) (y.cmp z) (x.cmp z) := by
  intro h1 h2
  by_cases hxy : x.kind = y.kind
  · have hyz : y.kind ≠ z.kind := fun e => h ⟨hxy, e⟩
    rw [cmp_kind hyz] at h2 ⊢
    have l2 := lt_cmpI h2 hyz
    have l1 : x.kind < z.kind := by omega
    rw [cmp_kind (by omega), cmpI_lt l1, cmpI_lt l2]
    omega
  · rw [cmp_kind hxy] at h1 ⊢
    have l1 := lt_cmpI h1 hxy
    have l2 : x.kind < z.kind := by
      by_cases hyz : y.kind = z.kind
      · omega
      · rw [cmp_kind hyz] at h2
        have := lt_cmpI h2 hyz
        omega
    rw [cmp_kind (x := x) (y := z) (by omega), cmpI_lt l1, cmpI_lt l2]
    omega
mutual
theorem I.tri : ∀ (x y z : I), Tri (x.cmp y) (y.cmp z) (x.cmp z) := fun x y z => by
  by_cases hk : x.kind = y.kind ∧ y.kind = z.kind
  · obtain ⟨h1, h2⟩ := hk
    cases x with
    | list l =>
      cases y with
      | list m =>
        cases z with
        | list n => exact cmps_tri l m n
        | _ => exfalso; simp [I.kind] at h2; done
      | _ => exfalso; simp [I.kind] at h1; done
    | void =>
      cases y <;> (try (exfalso; simp [I.kind] at h1; done))
      cases z <;> first | (exfalso; simp [I.kind] at h2; done) | exact tri_cmpI 1 1 1
    | truth a =>
      cases y <;> (try (exfalso; simp [I.kind] at h1; done))
      cases z <;> first | (exfalso; simp [I.kind] at h2; done) | exact tri_cmpI _ _ _
    | whole a =>
      cases y <;> (try (exfalso; simp [I.kind] at h1; done))
      cases z <;> first | (exfalso; simp [I.kind] at h2; done) | exact tri_cmpI _ _ _
    | number a =>
      cases y <;> (try (exfalso; simp [I.kind] at h1; done))
      cases z <;> first | (exfalso; simp [I.kind] at h2; done) | exact tri_cmpI _ _ _
    | text a =>
      cases y <;> (try (exfalso; simp [I.kind] at h1; done))
      cases z <;> first | (exfalso; simp [I.kind] at h2; done) | exact bytes_tri _ _ _
  · exact tri_kind hk
theorem cmps_tri : ∀ (l m n : List I), Tri (cmps l m) (cmps m n) (cmps l n)
  | [], m, [] => by
    intro h1 h2
    cases m with
    | nil => decide
    | cons b m => exact absurd h2 (by show ¬ (1 : Int) ≤ 0; decide)
  | [], m, c :: n => by
    intro h1 h2
    show cmpI 0 ((c :: n).length : Nat) ≤ 0 ∧ (cmpI 0 ((c :: n).length : Nat) = 0 ↔ cmps [] m = 0 ∧ cmps m (c :: n) = 0)
    have e : cmpI 0 ((c :: n).length : Nat) = -1 := cmpI_lt (by simp only [List.length_cons]; omega)
    refine ⟨by omega, by omega, fun ⟨g1, g2⟩ => ?_⟩
    cases m with
    | nil => exact g2
    | cons b m =>
      have e : cmpI 0 ((b :: m).length : Nat) = -1 := cmpI_lt (by simp only [List.length_cons]; omega)
      have g1 : cmpI 0 ((b :: m).length : Nat) = 0 := g1
      omega
  | a :: l, [], _ => by intro h; exact absurd h (by show ¬ (1 : Int) ≤ 0; decide)
  | a :: l, b :: m, [] => by intro _ h; exact absurd h (by show ¬ (1 : Int) ≤ 0; decide)
  | a :: l, b :: m, c :: n => tri_lex (I.tri a b c) (cmps_tri l m n)
end
theorem I.self (x : I) : x.cmp x = 0 := by have := I.neg x x; omega
theorem V.neg (a b : V) : b.cmp a = -(a.cmp b) := by
  unfold V.cmp
  cases a.item with
  | none => cases b.item <;> rfl
  | some x =>
    cases b.item with
    | none => rfl
    | some y => exact I.neg x y
theorem V.self (a : V) : a.cmp a = 0 := by have := V.neg a a; omega
theorem V.tri (a b c : V) : Tri (a.cmp b) (b.cmp c) (a.cmp c) := by
  unfold V.cmp
  cases a.item with
  | none =>
    cases b.item with
    | none => cases c.item <;> (intro h1 h2; first | (exfalso; exact absurd h2 (by show ¬ (1 : Int) ≤ 0; decide)) | decide)
    | some y => intro h; exact absurd h (by show ¬ (1 : Int) ≤ 0; decide)
  | some x =>
    cases b.item with
    | none => cases c.item <;> (intro h1 h2; first | (exfalso; exact absurd h2 (by show ¬ (1 : Int) ≤ 0; decide)) | (show (-1 : Int) ≤ 0 ∧ ((-1 : Int) = 0 ↔ (-1 : Int) = 0 ∧ (0 : Int) = 0); decide))
    | some y =>
      cases c.item with
      | none => intro h1 h2; show (-1 : Int) ≤ 0 ∧ ((-1 : Int) = 0 ↔ _ ∧ (-1 : Int) = 0); omega
      | some z => exact I.tri x y z
theorem V.same_eq (a b : V) : a.same b = (a.may && b.may && (a.cmp b == 0)) := by
  unfold V.same V.may V.cmp
  cases a.item with
  | none => rfl
  | some x => cases b.item <;> simp
end Go.Proofs.Ytffdfegelgpniaa
/-
  The answers' range.
-/
set_option linter.unusedSimpArgs false
set_option linter.unusedVariables false
namespace Go.Proofs.Ytffdfegelgpniaa
open Go.RowKit Go.Fl

def Rng (c : Int) : Prop := -1 ≤ c ∧ c ≤ 1
theorem rng_cmpI (a b : Int) : Rng (cmpI a b) := by
  unfold Rng cmpI
  repeat' split
  all_goals omega
theorem rng_bytes : ∀ l m, Rng (Lib.compareBytes l m)
  | [], [] => by show Rng 0; unfold Rng; omega
  | [], _ :: _ => by show Rng (-1); unfold Rng; omega
  | _ :: _, [] => by show Rng 1; unfold Rng; omega
  | a :: l, b :: m => by
    rw [bytes_lex]
    split
    · exact rng_cmpI _ _
    · exact rng_bytes l m
mutual
theorem I.rng : ∀ (x y : I), Rng (x.cmp y) := fun x y => by
  by_cases hk : x.kind = y.kind
  · cases x with
    | list l =>
      cases y with
      | list m => exact cmps_rng l m
      | _ => exfalso; simp [I.kind] at hk; done
    | void => cases y <;> first | (exfalso; simp [I.kind] at hk; done) | exact rng_cmpI _ _
    | truth => cases y <;> first | (exfalso; simp [I.kind] at hk; done) | exact rng_cmpI _ _
    | whole => cases y <;> first | (exfalso; simp [I.kind] at hk; done) | exact rng_cmpI _ _
    | number => cases y <;> first | (exfalso; simp [I.kind] at hk; done) | exact rng_cmpI _ _
    | text => cases y <;> first | (exfalso; simp [I.kind] at hk; done) | exact rng_bytes _ _
  · rw [cmp_kind hk]
    exact rng_cmpI _ _
theorem cmps_rng : ∀ (l m : List I), Rng (cmps l m)
  | [], m => rng_cmpI _ _
  | a :: l, [] => by show Rng 1; unfold Rng; omega
  | a :: l, b :: m => by
    have h1 := I.rng a b
    have h2 := cmps_rng l m
    show Rng (if a.cmp b ≠ 0 then a.cmp b else cmps l m)
    split
    · exact h1
    · exact h2
end
theorem V.rng (a b : V) : Rng (a.cmp b) := by
  unfold V.cmp
  cases a.item <;> cases b.item
  · show Rng 0; unfold Rng; omega
  · show Rng 1; unfold Rng; omega
  · show Rng (-1); unfold Rng; omega
  · exact I.rng _ _
theorem wrap_neg {x : Int} (h : Rng x) : (-x != wrap64 (-x)) = false := by
  unfold Rng at h
  rw [bne_eq_false_iff_eq]
  unfold wrap64
  omega
end Go.Proofs.Ytffdfegelgpniaa
/-
  The keys' plain law.
-/
set_option linter.unusedSimpArgs false
set_option linter.unusedVariables false
namespace Go.Proofs.Ytffdfegelgpniaa
open Go.RowKit Go.Fl

/-- One stands ahead of another, byte by byte, and is no front of it. -/
def Less (u v : List Nat) : Prop := ∃ p a b s t, u = p ++ a :: s ∧ v = p ++ b :: t ∧ a < b
theorem Less.tail {u v : List Nat} (h : Less u v) (s t : List Nat) : Less (u ++ s) (v ++ t) := by
  obtain ⟨p, a, b, s', t', rfl, rfl, hl⟩ := h
  exact ⟨p, a, b, s' ++ s, t' ++ t, by simp, by simp, hl⟩
theorem Less.front {u v : List Nat} (h : Less u v) (p : List Nat) : Less (p ++ u) (p ++ v) := by
  obtain ⟨q, a, b, s, t, rfl, rfl, hl⟩ := h
  exact ⟨p ++ q, a, b, s, t, by simp, by simp, hl⟩
theorem Less.cons {u v : List Nat} (h : Less u v) (c : Nat) : Less (c :: u) (c :: v) := h.front [c]
theorem Less.head {a b : Nat} (h : a < b) (s t : List Nat) : Less (a :: s) (b :: t) := ⟨[], a, b, s, t, rfl, rfl, h⟩
/-- The keys stand as the answer says. -/
def Kord (c : Int) (u v : List Nat) : Prop := (c = 0 → u = v) ∧ (c < 0 → Less u v) ∧ (0 < c → Less v u)
theorem Kord.cons {c : Int} {u v : List Nat} (h : Kord c u v) (a : Nat) : Kord c (a :: u) (a :: v) :=
  ⟨fun e => by rw [h.1 e], fun e => (h.2.1 e).cons a, fun e => (h.2.2 e).cons a⟩
theorem Kord.tail {c : Int} {u v : List Nat} (h : Kord c u v) (s : List Nat) : Kord c (u ++ s) (v ++ s) :=
  ⟨fun e => by rw [h.1 e], fun e => (h.2.1 e).tail s s, fun e => (h.2.2 e).tail s s⟩
theorem kord_lt {a b : Int} {u v : List Nat} (h0 : a = b → u = v) (h1 : a < b → Less u v) (h2 : b < a → Less v u) : Kord (cmpI a b) u v := by
  unfold cmpI
  refine ⟨fun e => ?_, fun e => ?_, fun e => ?_⟩
  · split at e
    · cases e
    · split at e
      · cases e
      · exact h0 (by omega)
  · split at e
    · exact h1 (by assumption)
    · split at e <;> omega
  · split at e
    · omega
    · split at e
      · exact h2 (by assumption)
      · omega
theorem big8_lt {n m : Nat} (hm : m < 18446744073709551616) (h : n < m) : Less (big8 n) (big8 m) := by
  unfold big8
  by_cases e7 : n / 2 ^ 56 % 256 = m / 2 ^ 56 % 256
  · rw [e7]; refine Less.cons ?_ _
    by_cases e6 : n / 2 ^ 48 % 256 = m / 2 ^ 48 % 256
    · rw [e6]; refine Less.cons ?_ _
      by_cases e5 : n / 2 ^ 40 % 256 = m / 2 ^ 40 % 256
      · rw [e5]; refine Less.cons ?_ _
        by_cases e4 : n / 2 ^ 32 % 256 = m / 2 ^ 32 % 256
        · rw [e4]; refine Less.cons ?_ _
          by_cases e3 : n / 2 ^ 24 % 256 = m / 2 ^ 24 % 256
          · rw [e3]; refine Less.cons ?_ _
            by_cases e2 : n / 2 ^ 16 % 256 = m / 2 ^ 16 % 256
            · rw [e2]; refine Less.cons ?_ _
              by_cases e1 : n / 2 ^ 8 % 256 = m / 2 ^ 8 % 256
              · rw [e1]; refine Less.cons ?_ _
                exact Less.head (by omega) _ _
              · exact Less.head (by omega) _ _
            · exact Less.head (by omega) _ _
          · exact Less.head (by omega) _ _
        · exact Less.head (by omega) _ _
      · exact Less.head (by omega) _ _
    · exact Less.head (by omega) _ _
  · exact Less.head (by omega) _ _
theorem esc_ord : ∀ (a b : List UInt8), Kord (Lib.compareBytes a b) (esc a ++ [0, 1]) (esc b ++ [0, 1])
  | [], [] => ⟨fun _ => rfl, fun h => absurd h (by show ¬ (0 : Int) < 0; decide), fun h => absurd h (by show ¬ (0 : Int) < 0; decide)⟩
  | [], c :: l => by
    refine ⟨fun h => absurd h (by show ¬ (-1 : Int) = 0; decide), fun _ => ?_, fun h => absurd h (by show ¬ (0 : Int) < -1; decide)⟩
    simp only [esc, List.nil_append, List.append_assoc]
    by_cases h : c = 0
    · rw [if_pos h]; exact Less.cons (Less.head (by decide) _ _) 0
    · rw [if_neg h]; exact Less.head (by have : c.toNat ≠ 0 := fun e => h (UInt8.toNat_inj.1 e); omega) _ _
  | c :: l, [] => by
    refine ⟨fun h => absurd h (by show ¬ (1 : Int) = 0; decide), fun h => absurd h (by show ¬ (1 : Int) < 0; decide), fun _ => ?_⟩
    simp only [esc, List.nil_append, List.append_assoc]
    by_cases h : c = 0
    · rw [if_pos h]; exact Less.cons (Less.head (by decide) _ _) 0
    · rw [if_neg h]; exact Less.head (by have : c.toNat ≠ 0 := fun e => h (UInt8.toNat_inj.1 e); omega) _ _
  | c :: l, d :: m => by
    have ih := esc_ord l m
    have hh : ∀ (c d : UInt8) (s t : List Nat), c.toNat < d.toNat → Less ((if c = 0 then [0, 255] else [c.toNat]) ++ s) ((if d = 0 then [0, 255] else [d.toNat]) ++ t) := fun c d s t h => by
      have hd : d ≠ 0 := fun e => by rw [e] at h; exact absurd h (Nat.not_lt_zero _)
      rw [if_neg hd]
      by_cases hc : c = 0
      · rw [if_pos hc]; exact Less.head (by omega) _ _
      · rw [if_neg hc]; exact Less.head h _ _
    simp only [esc, List.append_assoc]
    rw [bytes_lex]
    by_cases h : cmpI c.toNat d.toNat = 0
    · rw [if_neg (by omega)]
      have e : c = d := UInt8.toNat_inj.1 (by have := cmpI_zero.1 h; omega)
      rw [e]
      exact ⟨fun g => by rw [ih.1 g], fun g => (ih.2.1 g).front _, fun g => (ih.2.2 g).front _⟩
    · rw [if_pos h]
      have hk := kord_lt (a := c.toNat) (b := d.toNat) (u := (if c = 0 then [0, 255] else [c.toNat]) ++ (esc l ++ [0, 1])) (v := (if d = 0 then [0, 255] else [d.toNat]) ++ (esc m ++ [0, 1])) (fun e => absurd (cmpI_zero.2 e) h) (fun g => hh _ _ _ _ (by omega)) (fun g => hh _ _ _ _ (by omega))
      exact hk
theorem i64_rng {n : Int} (h : (Lit.int .i64 n).wf = true) : -9223372036854775808 ≤ n ∧ n ≤ 9223372036854775807 := by
  simp only [Lit.wf, IntKind.min, IntKind.max, IntKind.signed, IntKind.bits, Bool.and_eq_true, decide_eq_true_eq, if_true] at h
  omega
mutual
/-- What an item holds of a value's. -/
def I.Good : I → Prop
  | .void => True
  | .truth n => n = 0 ∨ n = 1
  | .whole n => -9223372036854775808 ≤ n ∧ n ≤ 9223372036854775807
  | .number b => b < 18446744073709551616
  | .text _ => True
  | .list l => Goods l
def Goods : List I → Prop
  | [] => True
  | x :: l => x.Good ∧ Goods l
end
def I.rest : I → List Nat
  | .void => []
  | .truth n => [(n % 256).toNat]
  | .whole n => big8 (n + 9223372036854775808).toNat
  | .number b => big8 (keyR b)
  | .text t => esc t.data.toList ++ [0, 1]
  | .list l => keys l ++ [0]
theorem I.key_eq (x : I) : x.key = x.kind.toNat :: x.rest := by cases x <;> rfl
theorem I.kind_pos (x : I) : 1 ≤ x.kind := by cases x <;> simp [I.kind]
mutual
theorem I.kord : ∀ (x y : I), x.Good → y.Good → Kord (x.cmp y) x.key y.key := fun x y hx hy => by
  by_cases hk : x.kind = y.kind
  · rw [I.key_eq x, I.key_eq y, hk]
    refine Kord.cons ?_ _
    cases x with
    | list l =>
      cases y with
      | list m => exact keys_ord l m hx hy
      | _ => exfalso; simp [I.kind] at hk; done
    | void =>
      cases y <;> first | (exfalso; simp [I.kind] at hk; done) | exact ⟨fun _ => rfl, fun h => absurd h (by decide), fun h => absurd h (by decide)⟩
    | truth n =>
      cases y with
      | truth m =>
        have hx : n = 0 ∨ n = 1 := hx
        have hy : m = 0 ∨ m = 1 := hy
        exact kord_lt (fun e => by rw [e]) (fun h => by
          show Less [(n % 256).toNat] [(m % 256).toNat]
          exact Less.head (by omega) _ _) (fun h => by
          show Less [(m % 256).toNat] [(n % 256).toNat]
          exact Less.head (by omega) _ _)
      | _ => exfalso; simp [I.kind] at hk; done
    | whole n =>
      cases y with
      | whole m =>
        have hx : -9223372036854775808 ≤ n ∧ n ≤ 9223372036854775807 := hx
        have hy : -9223372036854775808 ≤ m ∧ m ≤ 9223372036854775807 := hy
        exact kord_lt (fun e => by rw [e]) (fun h => big8_lt (by omega) (by omega)) (fun h => big8_lt (by omega) (by omega))
      | _ => exfalso; simp [I.kind] at hk; done
    | number n =>
      cases y with
      | number m =>
        have hx := keyR_lt (show n < 18446744073709551616 from hx)
        have hy := keyR_lt (show m < 18446744073709551616 from hy)
        exact kord_lt (fun e => by
          have e : keyR n = keyR m := by omega
          show big8 (keyR n) = big8 (keyR m)
          rw [e]) (fun h => big8_lt (by omega) (by omega)) (fun h => big8_lt (by omega) (by omega))
      | _ => exfalso; simp [I.kind] at hk; done
    | text t =>
      cases y with
      | text s => exact esc_ord _ _
      | _ => exfalso; simp [I.kind] at hk; done
  · rw [cmp_kind hk, I.key_eq x, I.key_eq y]
    have h1 := I.kind_pos x
    have h2 := I.kind_pos y
    exact kord_lt (fun e => absurd e hk) (fun h => Less.head (by omega) _ _) (fun h => Less.head (by omega) _ _)
theorem keys_ord : ∀ (l m : List I), Goods l → Goods m → Kord (cmps l m) (keys l ++ [0]) (keys m ++ [0])
  | [], [], _, _ => ⟨fun _ => rfl, fun h => absurd h (by decide), fun h => absurd h (by decide)⟩
  | [], b :: m, _, _ => by
    have e : cmps [] (b :: m) = -1 := cmpI_lt (by simp only [List.length_cons]; omega)
    rw [e]
    refine ⟨fun h => absurd h (by decide), fun _ => ?_, fun h => absurd h (by decide)⟩
    have := I.kind_pos b
    simp only [keys, I.key_eq b, List.cons_append, List.nil_append]
    exact Less.head (by omega) _ _
  | a :: l, [], _, _ => by
    show Kord 1 _ _
    refine ⟨fun h => absurd h (by decide), fun h => absurd h (by decide), fun _ => ?_⟩
    have := I.kind_pos a
    simp only [keys, I.key_eq a, List.cons_append, List.nil_append]
    exact Less.head (by omega) _ _
  | a :: l, b :: m, ⟨ha, hl⟩, ⟨hb, hm⟩ => by
    have h1 := I.kord a b ha hb
    have h2 := keys_ord l m hl hm
    show Kord (if a.cmp b ≠ 0 then a.cmp b else cmps l m) ((a.key ++ keys l) ++ [0]) ((b.key ++ keys m) ++ [0])
    rw [List.append_assoc, List.append_assoc]
    by_cases h : a.cmp b = 0
    · rw [if_neg (by omega), h1.1 h]
      exact ⟨fun g => by rw [h2.1 g], fun g => (h2.2.1 g).front _, fun g => (h2.2.2 g).front _⟩
    · rw [if_pos h]
      exact ⟨fun g => absurd g h, fun g => (h1.2.1 g).tail _ _, fun g => (h1.2.2 g).tail _ _⟩
end
mutual
theorem take_good {w : World} {F : Nat → Prop} : ∀ (v : V) (cs : List Value) (nest : Nat) (room : Int) (x : I), VIs w F v cs → (v.take nest room).1 = some x → x.Good
  | .mk k i r t l, cs, nest, room, x, hv, h => by
    cases hv with
    | mk css hwk hwi hr _ _ _ _ hl =>
    unfold V.take at h
    by_cases hb : bad k i r t l.length (room - 1) = true
    · rw [if_pos hb] at h; cases h
    rw [if_neg hb] at h
    by_cases k1 : k = 1
    · rw [if_pos k1] at h; injection h with h; subst h; trivial
    rw [if_neg k1] at h
    by_cases k2 : k = 2
    · rw [if_pos k2] at h
      split at h
      · rename_i hi; injection h with h; subst h; exact hi
      · cases h
    rw [if_neg k2] at h
    by_cases k3 : k = 3
    · rw [if_pos k3] at h; injection h with h; subst h; exact i64_rng hwi
    rw [if_neg k3] at h
    by_cases k4 : k = 4
    · rw [if_pos k4] at h; injection h with h; subst h; exact hr
    rw [if_neg k4] at h
    by_cases k5 : k = 5
    · rw [if_pos k5] at h
      split at h
      · injection h with h; subst h; trivial
      · cases h
    rw [if_neg k5] at h
    by_cases k6 : k = 6
    · rw [if_pos k6] at h
      split at h
      · cases h
      · cases hm : (takes l (nest + 1) (room - 1)).1 with
        | none => rw [hm] at h; cases h
        | some xs =>
          rw [hm] at h
          injection h with h
          subst h
          exact takes_good l (nest + 1) (room - 1) xs (fun u hu => by
            obtain ⟨j, hj, rfl⟩ := List.getElem_of_mem hu
            exact ⟨_, hl j hj⟩) hm
    rw [if_neg k6] at h
    cases h
theorem takes_good {w : World} {F : Nat → Prop} : ∀ (l : List V) (nest : Nat) (room : Int) (xs : List I), (∀ u ∈ l, ∃ cs, VIs w F u cs) → (takes l nest room).1 = some xs → Goods xs
  | [], nest, room, xs, _, h => by
    injection h with h
    subst h
    trivial
  | v :: l, nest, room, xs, hv, h => by
    obtain ⟨cs, hc⟩ := hv v (by simp)
    cases hh : v.take nest room with
    | mk a b =>
      cases a with
      | none => simp [takes, hh] at h
      | some x =>
        simp only [takes, hh] at h
        cases hm : (takes l nest b).1 with
        | none => rw [hm] at h; cases h
        | some ys =>
          rw [hm] at h
          injection h with h
          subst h
          exact ⟨take_good v cs nest room x hc (by rw [hh]), takes_good l nest b ys (fun u hu => hv u (by simp [hu])) hm⟩
end
theorem item_good {w : World} {F : Nat → Prop} {v : V} {cs : List Value} (h : VIs w F v cs) {x : I} (hx : v.item = some x) : x.Good := take_good v cs 0 65536 x h hx
end Go.Proofs.Ytffdfegelgpniaa
