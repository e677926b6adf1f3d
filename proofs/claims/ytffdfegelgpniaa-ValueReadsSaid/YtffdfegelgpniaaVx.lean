/-
  The order's plain law.
-/
import Derived.Test.YtffdfegelgpniaaVw
set_option linter.unusedSimpArgs false
set_option linter.unusedVariables false
namespace Go.Proofs.Ytffdfegelgpniaa
open Go.RowKit Go.Fl

/-- How three answers of an order stand. -/
def Tri (a b c : Int) : Prop := a ≤ 0 → b ≤ 0 → c ≤ 0 ∧ (c = 0 ↔ a = 0 ∧ b = 0)
theorem tri_lex {a b c a' b' c' : Int} (h : Tri a b c) (h' : Tri a' b' c') : Tri (if a ≠ 0 then a else a') (if b ≠ 0 then b else b') (if c ≠ 0 then c else c') := by
  unfold Tri at *
  intro h1 h2
  by_cases ha : a = 0 <;> by_cases hb : b = 0 <;> by_cases hc : c = 0 <;> simp only [ha, hb, hc, ne_eq, not_true_eq_false, not_false_eq_true, if_true, if_false] at * <;> first | omega | (simp at *; omega) | (simp at *; done)
theorem tri_cmpI (a b c : Int) : Tri (cmpI a b) (cmpI b c) (cmpI a c) := by
  unfold Tri cmpI
  intro h1 h2
  split at h1 <;> split at h2 <;> (try split at h1) <;> (try split at h2) <;> (repeat' split) <;> omega
theorem neg_cmpI (a b : Int) : cmpI b a = -(cmpI a b) := by
  unfold cmpI
  repeat' split
  all_goals first | omega | rfl
theorem bytes_neg : ∀ a b, Lib.compareBytes b a = -(Lib.compareBytes a b)
  | [], [] => rfl
  | [], _ :: _ => rfl
  | _ :: _, [] => rfl
  | a :: ms, b :: bs => by
    have ih := bytes_neg ms bs
    unfold Lib.compareBytes
    by_cases h1 : a < b
    · have h2 : ¬ b < a := by intro h; exact UInt8.lt_irrefl _ (UInt8.lt_trans h1 h)
      rw [if_neg h2, if_pos h1, if_pos h1]; rfl
    · by_cases h2 : b < a
      · rw [if_pos h2, if_neg h1, if_pos h2]
      · rw [if_neg h2, if_neg h1, if_neg h1, if_neg h2]; exact ih
theorem bytes_lex (a b : UInt8) ( ms bs : List UInt8) : Lib.compareBytes (a :: ms) (b :: bs) = if cmpI a.toNat b.toNat ≠ 0 then cmpI a.toNat b.toNat else Lib.compareBytes ms bs := by
  have h1 : a < b ↔ (a.toNat : Int) < b.toNat := by rw [UInt8.lt_iff_toNat_lt]; omega
  have h2 : b < a ↔ (b.toNat : Int) < a.toNat := by rw [UInt8.lt_iff_toNat_lt]; omega
  show (if a < b then -1 else if b < a then 1 else Lib.compareBytes ms bs) = _
  simp only [h1, h2]
  unfold cmpI
  by_cases g1 : (a.toNat : Int) < b.toNat
  · simp only [if_pos g1]; rfl
  · by_cases g2 : (b.toNat : Int) < a.toNat
    · simp only [if_neg g1, if_pos g2]; rfl
    · simp only [if_neg g1, if_neg g2]; rfl
theorem bytes_tri : ∀ a b c, Tri (Lib.compareBytes a b) (Lib.compareBytes b c) (Lib.compareBytes a c)
  | [], [], [] => by intro _ _; decide
  | [], [], _ :: _ => by intro _ _; show (-1 : Int) ≤ 0 ∧ ((-1 : Int) = 0 ↔ (0 : Int) = 0 ∧ (-1 : Int) = 0); decide
  | [], _ :: _, [] => by intro _ h; exact absurd h (by show ¬ (1 : Int) ≤ 0; decide)
  | [], b :: bs, c :: cs => by
    intro _ h
    show (-1 : Int) ≤ 0 ∧ ((-1 : Int) = 0 ↔ (-1 : Int) = 0 ∧ _)
    omega
  | a :: ms, [], _ => by intro h; exact absurd h (by show ¬ (1 : Int) ≤ 0; decide)
  | a :: ms, b :: bs, [] => by intro _ h; exact absurd h (by show ¬ (1 : Int) ≤ 0; decide)
  | a :: ms, b :: bs, c :: cs => by
    rw [bytes_lex, bytes_lex, bytes_lex]
    exact tri_lex (tri_cmpI _ _ _) (bytes_tri ms bs cs)
mutual
theorem I.neg : ∀ (x y : I), y.cmp x = -(x.cmp y) := fun x y => by
  by_cases hk : x.kind = y.kind
  · cases x with
    | list l =>
      cases y with
      | list m => exact cmps_neg l m
      | void => (exfalso; simp [I.kind] at hk; done)
      | truth => (exfalso; simp [I.kind] at hk; done)
      | whole => (exfalso; simp [I.kind] at hk; done)
      | number => (exfalso; simp [I.kind] at hk; done)
      | text => (exfalso; simp [I.kind] at hk; done)
    | void => cases y <;> first | (exfalso; simp [I.kind] at hk; done) | exact neg_cmpI _ _
    | truth => cases y <;> first | (exfalso; simp [I.kind] at hk; done) | exact neg_cmpI _ _
    | whole => cases y <;> first | (exfalso; simp [I.kind] at hk; done) | exact neg_cmpI _ _
    | number => cases y <;> first | (exfalso; simp [I.kind] at hk; done) | exact neg_cmpI _ _
    | text => cases y <;> first | (exfalso; simp [I.kind] at hk; done) | exact bytes_neg _ _
  · rw [cmp_kind hk, cmp_kind (Ne.symm hk)]
    exact neg_cmpI _ _
theorem cmps_neg : ∀ (l m : List I), cmps m l = -(cmps l m)
  | [], [] => by decide
  | [], b :: m => by
    show (1 : Int) = -(cmpI 0 ((b :: m).length : Nat))
    unfold cmpI
    rw [if_pos (by simp only [List.length_cons]; omega)]
    rfl
  | a :: l, [] => by
    show cmpI 0 ((a :: l).length : Nat) = -(1 : Int)
    unfold cmpI
    rw [if_pos (by simp only [List.length_cons]; omega)]
  | a :: l, b :: m => by
    have h1 := I.neg a b
    have h2 := cmps_neg l m
    show (if b.cmp a ≠ 0 then b.cmp a else cmps m l) = -(if a.cmp b ≠ 0 then a.cmp b else cmps l m)
    by_cases h : a.cmp b = 0
    · rw [if_neg (by omega), if_neg (by omega)]; exact h2
    · rw [if_pos (by omega), if_pos (by omega)]; exact h1
end
theorem lt_cmpI {a b : Int} (h : cmpI a b ≤ 0) (hn : a ≠ b) : a < b := by
  unfold cmpI at h
  split at h
  · assumption
  · split at h <;> omega
theorem cmpI_lt {a b : Int} (h : a < b) : cmpI a b = -1 := by unfold cmpI; rw [if_pos h]
theorem tri_kind {x y z : I} (h : ¬ (x.kind = y.kind ∧ y.kind = z.kind)) : Tri (x.cmp y) (y.cmp z) (x.cmp z) := by
  intro h1 h2
  by_cases hxy : x.kind = y.kind
  · have hyz : y.kind ≠ z.kind := fun e => h ⟨hxy, e⟩
    rw [cmp_kind hyz] at h2 ⊢
    have l2 := lt_cmpI h2 hyz
    have l1 : x.kind < z.kind := by omega
    rw [cmp_kind (by omega), cmpI_lt l1, cmpI_lt l2]
    omega
  · rw [cmp_kind hxy] at h1 ⊢
    have l1 := lt_cmpI h1 hxy
    have l2 : x.kind < z.kind := by
      by_cases hyz : y.kind = z.kind
      · omega
      · rw [cmp_kind hyz] at h2
        have := lt_cmpI h2 hyz
        omega
    rw [cmp_kind (x := x) (y := z) (by omega), cmpI_lt l1, cmpI_lt l2]
    omega
mutual
theorem I.tri : ∀ (x y z : I), Tri (x.cmp y) (y.cmp z) (x.cmp z) := fun x y z => by
  by_cases hk : x.kind = y.kind ∧ y.kind = z.kind
  · obtain ⟨h1, h2⟩ := hk
    cases x with
    | list l =>
      cases y with
      | list m =>
        cases z with
        | list n => exact cmps_tri l m n
        | _ => exfalso; simp [I.kind] at h2; done
      | _ => exfalso; simp [I.kind] at h1; done
    | void =>
      cases y <;> (try (exfalso; simp [I.kind] at h1; done))
      cases z <;> first | (exfalso; simp [I.kind] at h2; done) | exact tri_cmpI 1 1 1
    | truth a =>
      cases y <;> (try (exfalso; simp [I.kind] at h1; done))
      cases z <;> first | (exfalso; simp [I.kind] at h2; done) | exact tri_cmpI _ _ _
    | whole a =>
      cases y <;> (try (exfalso; simp [I.kind] at h1; done))
      cases z <;> first | (exfalso; simp [I.kind] at h2; done) | exact tri_cmpI _ _ _
    | number a =>
      cases y <;> (try (exfalso; simp [I.kind] at h1; done))
      cases z <;> first | (exfalso; simp [I.kind] at h2; done) | exact tri_cmpI _ _ _
    | text a =>
      cases y <;> (try (exfalso; simp [I.kind] at h1; done))
      cases z <;> first | (exfalso; simp [I.kind] at h2; done) | exact bytes_tri _ _ _
  · exact tri_kind hk
theorem cmps_tri : ∀ (l m n : List I), Tri (cmps l m) (cmps m n) (cmps l n)
  | [], m, [] => by
    intro h1 h2
    cases m with
    | nil => decide
    | cons b m => exact absurd h2 (by show ¬ (1 : Int) ≤ 0; decide)
  | [], m, c :: n => by
    intro h1 h2
    show cmpI 0 ((c :: n).length : Nat) ≤ 0 ∧ (cmpI 0 ((c :: n).length : Nat) = 0 ↔ cmps [] m = 0 ∧ cmps m (c :: n) = 0)
    have e : cmpI 0 ((c :: n).length : Nat) = -1 := cmpI_lt (by simp only [List.length_cons]; omega)
    refine ⟨by omega, by omega, fun ⟨g1, g2⟩ => ?_⟩
    cases m with
    | nil => exact g2
    | cons b m =>
      have e : cmpI 0 ((b :: m).length : Nat) = -1 := cmpI_lt (by simp only [List.length_cons]; omega)
      have g1 : cmpI 0 ((b :: m).length : Nat) = 0 := g1
      omega
  | a :: l, [], _ => by intro h; exact absurd h (by show ¬ (1 : Int) ≤ 0; decide)
  | a :: l, b :: m, [] => by intro _ h; exact absurd h (by show ¬ (1 : Int) ≤ 0; decide)
  | a :: l, b :: m, c :: n => tri_lex (I.tri a b c) (cmps_tri l m n)
end
theorem I.self (x : I) : x.cmp x = 0 := by have := I.neg x x; omega
theorem V.neg (a b : V) : b.cmp a = -(a.cmp b) := by
  unfold V.cmp
  cases a.item with
  | none => cases b.item <;> rfl
  | some x =>
    cases b.item with
    | none => rfl
    | some y => exact I.neg x y
theorem V.self (a : V) : a.cmp a = 0 := by have := V.neg a a; omega
theorem V.tri (a b c : V) : Tri (a.cmp b) (b.cmp c) (a.cmp c) := by
  unfold V.cmp
  cases a.item with
  | none =>
    cases b.item with
    | none => cases c.item <;> (intro h1 h2; first | (exfalso; exact absurd h2 (by show ¬ (1 : Int) ≤ 0; decide)) | decide)
    | some y => intro h; exact absurd h (by show ¬ (1 : Int) ≤ 0; decide)
  | some x =>
    cases b.item with
    | none => cases c.item <;> (intro h1 h2; first | (exfalso; exact absurd h2 (by show ¬ (1 : Int) ≤ 0; decide)) | (show (-1 : Int) ≤ 0 ∧ ((-1 : Int) = 0 ↔ (-1 : Int) = 0 ∧ (0 : Int) = 0); decide))
    | some y =>
      cases c.item with
      | none => intro h1 h2; show (-1 : Int) ≤ 0 ∧ ((-1 : Int) = 0 ↔ _ ∧ (-1 : Int) = 0); omega
      | some z => exact I.tri x y z
theorem V.same_eq (a b : V) : a.same b = (a.may && b.may && (a.cmp b == 0)) := by
  unfold V.same V.may V.cmp
  cases a.item with
  | none => rfl
  | some x => cases b.item <;> simp
end Go.Proofs.Ytffdfegelgpniaa
