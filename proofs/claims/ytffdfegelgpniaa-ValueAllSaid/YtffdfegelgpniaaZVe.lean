/-
  take: a value's item.
-/
import Derived.Test.YtffdfegelgpniaaMc
set_option linter.unusedSimpArgs false
set_option linter.unusedVariables false
set_option linter.unusedSimpArgs false
set_option linter.unusedVariables false
namespace Go.Proofs.Ytffdfegelgpniaa
open Go.RowKit Go.Fl

theorem take_bad {k i : Int} {r : Nat} {t : ByteArray} {l : List V} {nest : Nat} {room : Int} (h : room - 1 < 0 ∨ (k ≠ 6 ∧ 0 < l.length) ∨ (k ≠ 5 ∧ 0 < t.size) ∨ (k ≠ 4 ∧ r ≠ 0) ∨ (i ≠ 0 ∧ k ≠ 3 ∧ k ≠ 2)) : (V.mk k i r t l).take nest room = (none, room - 1) := by
  unfold V.take
  rw [if_pos (by unfold bad; simp; omega)]
theorem not_bad {k i : Int} {r : Nat} {t : ByteArray} {n : Nat} {room : Int} (h : ¬ (room < 0 ∨ (k ≠ 6 ∧ 0 < n) ∨ (k ≠ 5 ∧ 0 < t.size) ∨ (k ≠ 4 ∧ r ≠ 0) ∨ (i ≠ 0 ∧ k ≠ 3 ∧ k ≠ 2))) : ¬ bad k i r t n room = true := by
  intro hb
  exact h (by unfold bad at hb; simp at hb; omega)
set_option maxRecDepth 100000 in
set_option maxHeartbeats 6400000 in
theorem take_low (k i : Int) (r : Nat) (t : ByteArray) (l : List V) (hk : k = 1 ∨ k = 2 ∨ k = 3 ∨ k = 4) : TakeOk (.mk k i r t l) := by
  intro w F cs p room nest hv hF hB h0 h1 hn
  cases hv with
  | @mk k i r t l a cap css wk wi wr wt hlen hmax hcell hvs =>
  have HW := Lib.hid (And.intro wi (And.intro wr wt))
  have HK := Lib.hid (show VL w F l (.slice a l.length cap) from ⟨a, cap, css, rfl, hlen, hmax, hcell, hvs⟩)
  have e := e59
  have HB := Lib.hid hB
  have HB1 := Lib.hid (show Blk (w.setCell ⟨p, 0, none⟩ (.int .i64 (room - 1))) p 91 #[iv (room - 1)] from hB.set_ 0 _)
  have hp := hB.lt
  have x0 := hB.cell 0
  have f0 := hB.frozen 0
  simp at x0
  clear hB hcell hvs wk wi
  have hlm : l.length ≤ maxLen := by omega
  unfold maxLen at hlm wt
  by_cases a1 : room - 1 < 0
  · rw [take_bad (by omega)]
    go_enter Try.func60, Try.ntmps60
    go_wp2
    exact bodyPost_ret (results_tmp rfl _ _ _) rfl ⟨.nilIface, rfl, rfl, HB1.out.alloc _, ((Only.refl _ w).setCell (.inl (by simp)) _).alloc _⟩
  by_cases k1 : k = 1
  · subst k1
    by_cases b : l = []
    case neg =>
      have b1 : 0 < l.length := List.length_pos_iff.2 b
      rw [take_bad (by omega)]
      go_enter Try.func60, Try.ntmps60
      go_wp2
      exact bodyPost_ret (results_tmp rfl _ _ _) rfl ⟨.nilIface, rfl, rfl, HB1.out.alloc _, ((Only.refl _ w).setCell (.inl (by simp)) _).alloc _⟩
    subst b
    simp only [List.length_nil]
    by_cases c : t.size = 0
    case neg =>
      have c1 : t.toList.isEmpty = false := by rw [ByteArray.toList_eq]; cases h : t.data.toList with
        | nil => exact absurd (by rw [← Array.length_toList] at *; show t.data.size = 0; rw [← Array.length_toList, h]; rfl) c
        | cons => rfl
      have c2 : ¬ t.toList = [] := fun h => by rw [h] at c1; cases c1
      rw [take_bad (by omega)]
      go_enter Try.func60, Try.ntmps60
      go_wp2
      exact bodyPost_ret (results_tmp rfl _ _ _) rfl ⟨.nilIface, rfl, rfl, HB1.out.alloc _, ((Only.refl _ w).setCell (.inl (by simp)) _).alloc _⟩
    obtain rfl : t = ⟨#[]⟩ := by
      cases t with
      | mk d => exact congrArg ByteArray.mk (Array.eq_empty_of_size_eq_zero c)
    have c1 : (⟨#[]⟩ : ByteArray).toList = [] := by rw [ByteArray.toList_eq]
    by_cases d : r = 0
    case neg =>
      have d1 : ((r : Int) != 0) = true := by simp [d]
      rw [take_bad (by omega)]
      go_enter Try.func60, Try.ntmps60
      go_wp2
      exact bodyPost_ret (results_tmp rfl _ _ _) rfl ⟨.nilIface, rfl, rfl, HB1.out.alloc _, ((Only.refl _ w).setCell (.inl (by simp)) _).alloc _⟩
    subst d
    by_cases f : i = 0
    case neg =>
      have f1 : (i != 0) = true := by simp [f]
      rw [take_bad (by omega)]
      go_enter Try.func60, Try.ntmps60
      go_wp2
      exact bodyPost_ret (results_tmp rfl _ _ _) rfl ⟨.nilIface, rfl, rfl, HB1.out.alloc _, ((Only.refl _ w).setCell (.inl (by simp)) _).alloc _⟩
    subst f
    rw [show V.take _ _ _ = (some .void, room - 1) from by unfold V.take; rw [if_neg (not_bad (by intro hx; simp at hx; omega))]; simp]
    go_enter Try.func60, Try.ntmps60
    go_wp2
    exact bodyPost_ret (results_tmp rfl _ _ _) rfl ⟨.iface _ (.agg #[]), rfl, ⟨_, rfl, .void⟩, HB1.out.alloc _, ((Only.refl _ w).setCell (.inl (by simp)) _).alloc _⟩
  by_cases k2 : k = 2
  · subst k2
    by_cases b : l = []
    case neg =>
      have b1 : 0 < l.length := List.length_pos_iff.2 b
      rw [take_bad (by omega)]
      go_enter Try.func60, Try.ntmps60
      go_wp2
      exact bodyPost_ret (results_tmp rfl _ _ _) rfl ⟨.nilIface, rfl, rfl, HB1.out.alloc _, ((Only.refl _ w).setCell (.inl (by simp)) _).alloc _⟩
    subst b
    simp only [List.length_nil]
    by_cases c : t.size = 0
    case neg =>
      have c1 : t.toList.isEmpty = false := by rw [ByteArray.toList_eq]; cases h : t.data.toList with
        | nil => exact absurd (by rw [← Array.length_toList] at *; show t.data.size = 0; rw [← Array.length_toList, h]; rfl) c
        | cons => rfl
      have c2 : ¬ t.toList = [] := fun h => by rw [h] at c1; cases c1
      rw [take_bad (by omega)]
      go_enter Try.func60, Try.ntmps60
      go_wp2
      exact bodyPost_ret (results_tmp rfl _ _ _) rfl ⟨.nilIface, rfl, rfl, HB1.out.alloc _, ((Only.refl _ w).setCell (.inl (by simp)) _).alloc _⟩
    obtain rfl : t = ⟨#[]⟩ := by
      cases t with
      | mk d => exact congrArg ByteArray.mk (Array.eq_empty_of_size_eq_zero c)
    have c1 : (⟨#[]⟩ : ByteArray).toList = [] := by rw [ByteArray.toList_eq]
    by_cases d : r = 0
    case neg =>
      have d1 : ((r : Int) != 0) = true := by simp [d]
      rw [take_bad (by omega)]
      go_enter Try.func60, Try.ntmps60
      go_wp2
      exact bodyPost_ret (results_tmp rfl _ _ _) rfl ⟨.nilIface, rfl, rfl, HB1.out.alloc _, ((Only.refl _ w).setCell (.inl (by simp)) _).alloc _⟩
    subst d
    by_cases i0 : i = 0
    · subst i0
      rw [show V.take _ _ _ = (some (.truth 0), room - 1) from by unfold V.take; rw [if_neg (not_bad (by intro hx; simp at hx; omega))]; simp]
      go_enter Try.func60, Try.ntmps60
      go_wp2
      exact bodyPost_ret (results_tmp rfl _ _ _) rfl ⟨.iface _ (iv 0), rfl, ⟨_, rfl, .truth 0 rfl⟩, HB1.out.alloc _, ((Only.refl _ w).setCell (.inl (by simp)) _).alloc _⟩
    by_cases i1 : i = 1
    · subst i1
      rw [show V.take _ _ _ = (some (.truth 1), room - 1) from by unfold V.take; rw [if_neg (not_bad (by intro hx; simp at hx; omega))]; simp]
      go_enter Try.func60, Try.ntmps60
      go_wp2
      exact bodyPost_ret (results_tmp rfl _ _ _) rfl ⟨.iface _ (iv 1), rfl, ⟨_, rfl, .truth 1 rfl⟩, HB1.out.alloc _, ((Only.refl _ w).setCell (.inl (by simp)) _).alloc _⟩
    have g0 : (i != 0) = true := by simp [i0]
    have g1 : (i == 0) = false := by simp [i0]
    have g2 : (i == 1) = false := by simp [i1]
    rw [show V.take _ _ _ = (none, room - 1) from by unfold V.take; rw [if_neg (not_bad (by intro hx; simp at hx; omega))]; simp [i0, i1]]
    go_enter Try.func60, Try.ntmps60
    go_wp2
    exact bodyPost_ret (results_tmp rfl _ _ _) rfl ⟨.nilIface, rfl, rfl, HB1.out.alloc _, ((Only.refl _ w).setCell (.inl (by simp)) _).alloc _⟩
  by_cases k3 : k = 3
  · subst k3
    by_cases b : l = []
    case neg =>
      have b1 : 0 < l.length := List.length_pos_iff.2 b
      rw [take_bad (by omega)]
      go_enter Try.func60, Try.ntmps60
      go_wp2
      exact bodyPost_ret (results_tmp rfl _ _ _) rfl ⟨.nilIface, rfl, rfl, HB1.out.alloc _, ((Only.refl _ w).setCell (.inl (by simp)) _).alloc _⟩
    subst b
    simp only [List.length_nil]
    by_cases c : t.size = 0
    case neg =>
      have c1 : t.toList.isEmpty = false := by rw [ByteArray.toList_eq]; cases h : t.data.toList with
        | nil => exact absurd (by rw [← Array.length_toList] at *; show t.data.size = 0; rw [← Array.length_toList, h]; rfl) c
        | cons => rfl
      have c2 : ¬ t.toList = [] := fun h => by rw [h] at c1; cases c1
      rw [take_bad (by omega)]
      go_enter Try.func60, Try.ntmps60
      go_wp2
      exact bodyPost_ret (results_tmp rfl _ _ _) rfl ⟨.nilIface, rfl, rfl, HB1.out.alloc _, ((Only.refl _ w).setCell (.inl (by simp)) _).alloc _⟩
    obtain rfl : t = ⟨#[]⟩ := by
      cases t with
      | mk d => exact congrArg ByteArray.mk (Array.eq_empty_of_size_eq_zero c)
    have c1 : (⟨#[]⟩ : ByteArray).toList = [] := by rw [ByteArray.toList_eq]
    by_cases d : r = 0
    case neg =>
      have d1 : ((r : Int) != 0) = true := by simp [d]
      rw [take_bad (by omega)]
      go_enter Try.func60, Try.ntmps60
      go_wp2
      exact bodyPost_ret (results_tmp rfl _ _ _) rfl ⟨.nilIface, rfl, rfl, HB1.out.alloc _, ((Only.refl _ w).setCell (.inl (by simp)) _).alloc _⟩
    subst d
    by_cases i0 : i = 0
    · subst i0
      rw [show V.take _ _ _ = (some (.whole 0), room - 1) from by unfold V.take; rw [if_neg (not_bad (by intro hx; simp at hx; omega))]; simp]
      go_enter Try.func60, Try.ntmps60
      go_wp2
      exact bodyPost_ret (results_tmp rfl _ _ _) rfl ⟨.iface _ (iv 0), rfl, ⟨_, rfl, .whole 0 rfl⟩, HB1.out.alloc _, ((Only.refl _ w).setCell (.inl (by simp)) _).alloc _⟩
    have g0 : (i != 0) = true := by simp [i0]
    rw [show V.take _ _ _ = (some (.whole i), room - 1) from by unfold V.take; rw [if_neg (not_bad (by intro hx; simp at hx; omega))]; simp]
    go_enter Try.func60, Try.ntmps60
    go_wp2
    exact bodyPost_ret (results_tmp rfl _ _ _) rfl ⟨.iface _ (iv i), rfl, ⟨_, rfl, .whole i HW.out.1⟩, HB1.out.alloc _, ((Only.refl _ w).setCell (.inl (by simp)) _).alloc _⟩
  by_cases k4 : k = 4
  · subst k4
    by_cases b : l = []
    case neg =>
      have b1 : 0 < l.length := List.length_pos_iff.2 b
      rw [take_bad (by omega)]
      go_enter Try.func60, Try.ntmps60
      go_wp2
      exact bodyPost_ret (results_tmp rfl _ _ _) rfl ⟨.nilIface, rfl, rfl, HB1.out.alloc _, ((Only.refl _ w).setCell (.inl (by simp)) _).alloc _⟩
    subst b
    simp only [List.length_nil]
    by_cases c : t.size = 0
    case neg =>
      have c1 : t.toList.isEmpty = false := by rw [ByteArray.toList_eq]; cases h : t.data.toList with
        | nil => exact absurd (by rw [← Array.length_toList] at *; show t.data.size = 0; rw [← Array.length_toList, h]; rfl) c
        | cons => rfl
      have c2 : ¬ t.toList = [] := fun h => by rw [h] at c1; cases c1
      rw [take_bad (by omega)]
      go_enter Try.func60, Try.ntmps60
      go_wp2
      exact bodyPost_ret (results_tmp rfl _ _ _) rfl ⟨.nilIface, rfl, rfl, HB1.out.alloc _, ((Only.refl _ w).setCell (.inl (by simp)) _).alloc _⟩
    obtain rfl : t = ⟨#[]⟩ := by
      cases t with
      | mk d => exact congrArg ByteArray.mk (Array.eq_empty_of_size_eq_zero c)
    have c1 : (⟨#[]⟩ : ByteArray).toList = [] := by rw [ByteArray.toList_eq]
    by_cases f : i = 0
    case neg =>
      have f1 : (i != 0) = true := by simp [f]
      rw [take_bad (by omega)]
      go_enter Try.func60, Try.ntmps60
      go_wp2
      exact bodyPost_ret (results_tmp rfl _ _ _) rfl ⟨.nilIface, rfl, rfl, HB1.out.alloc _, ((Only.refl _ w).setCell (.inl (by simp)) _).alloc _⟩
    subst f
    rw [show V.take _ _ _ = (some (.number r), room - 1) from by unfold V.take; rw [if_neg (not_bad (by intro hx; simp at hx; omega))]; simp]
    go_enter Try.func60, Try.ntmps60
    go_wp2
    exact bodyPost_ret (results_tmp rfl _ _ _) rfl ⟨.iface _ (fv r), rfl, ⟨_, rfl, .number r HW.out.2.1⟩, HB1.out.alloc _, ((Only.refl _ w).setCell (.inl (by simp)) _).alloc _⟩
  omega
end Go.Proofs.Ytffdfegelgpniaa
