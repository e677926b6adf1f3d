/-
  take: a value's item: texts, lists, others.
-/
import Derived.Test.YtffdfegelgpniaaZVe
set_option linter.unusedSimpArgs false
set_option linter.unusedVariables false
set_option linter.unusedSimpArgs false
set_option linter.unusedVariables false
namespace Go.Proofs.Ytffdfegelgpniaa
open Go.RowKit Go.Fl

set_option maxRecDepth 100000 in
set_option maxHeartbeats 6400000 in
theorem take_high (k i : Int) (r : Nat) (t : ByteArray) (l : List V) (hk : ¬ (k = 1 ∨ k = 2 ∨ k = 3 ∨ k = 4)) (H : AllOk l) : TakeOk (.mk k i r t l) := by
  intro w F cs p room nest hv hF hB h0 h1 hn
  cases hv with
  | @mk k i r t l a cap css wk wi wr wt hlen hmax hcell hvs =>
  have HW := Lib.hid (And.intro wi (And.intro wr wt))
  have HK := Lib.hid (show VL w F l (.slice a l.length cap) from ⟨a, cap, css, rfl, hlen, hmax, hcell, hvs⟩)
  have e := e59
  have HB := Lib.hid hB
  have HB1 := Lib.hid (show Blk (w.setCell ⟨p, 0, none⟩ (.int .i64 (room - 1))) p 91 #[iv (room - 1)] from hB.set_ 0 _)
  have hp := hB.lt
  have x0 := hB.cell 0
  have f0 := hB.frozen 0
  simp at x0
  clear hB hcell hvs wk wi
  have hlm : l.length ≤ maxLen := by omega
  unfold maxLen at hlm wt
  by_cases a1 : room - 1 < 0
  · rw [take_bad (by omega)]
    go_enter Try.func60, Try.ntmps60
    go_wp2
    exact bodyPost_ret (results_tmp rfl _ _ _) rfl ⟨.nilIface, rfl, rfl, HB1.out.alloc _, ((Only.refl _ w).setCell (.inl (by simp)) _).alloc _⟩
  have k1 : ¬ k = 1 := by omega
  have k2 : ¬ k = 2 := by omega
  have k3 : ¬ k = 3 := by omega
  have k4 : ¬ k = 4 := by omega
  clear hk
  by_cases k5 : k = 5
  · subst k5
    by_cases b : l = []
    case neg =>
      have b1 : 0 < l.length := List.length_pos_iff.2 b
      rw [take_bad (by omega)]
      go_enter Try.func60, Try.ntmps60
      go_wp2
      exact bodyPost_ret (results_tmp rfl _ _ _) rfl ⟨.nilIface, rfl, rfl, HB1.out.alloc _, ((Only.refl _ w).setCell (.inl (by simp)) _).alloc _⟩
    subst b
    simp only [List.length_nil]
    by_cases d : r = 0
    case neg =>
      have d1 : ((r : Int) != 0) = true := by simp [d]
      rw [take_bad (by omega)]
      go_enter Try.func60, Try.ntmps60
      go_wp2
      exact bodyPost_ret (results_tmp rfl _ _ _) rfl ⟨.nilIface, rfl, rfl, HB1.out.alloc _, ((Only.refl _ w).setCell (.inl (by simp)) _).alloc _⟩
    subst d
    by_cases f : i = 0
    case neg =>
      have f1 : (i != 0) = true := by simp [f]
      rw [take_bad (by omega)]
      go_enter Try.func60, Try.ntmps60
      go_wp2
      exact bodyPost_ret (results_tmp rfl _ _ _) rfl ⟨.nilIface, rfl, rfl, HB1.out.alloc _, ((Only.refl _ w).setCell (.inl (by simp)) _).alloc _⟩
    subst f
    have hs : (0 : Int) ≤ t.size := by omega
    have hs2 : ∀ w1, Blk w1 p 91 #[iv (room - 1)] → Blk (w1.setCell ⟨p, 0, none⟩ (.int .i64 (room - 1 - t.size))) p 91 #[iv (room - 1 - t.size)] := fun w1 h => h.set_ 0 _
    have HS2 := Lib.hid hs2
    clear hs2
    by_cases s : 0 ≤ room - 1 - t.size
    · rw [show V.take _ _ _ = (some (.text t), room - 1 - t.size) from by unfold V.take; rw [if_neg (not_bad (by intro hx; simp at hx; omega))]; simp only [s]; simp]
      go_enter Try.func60, Try.ntmps60
      go_wp2
      refine Lex.wp_region_text (by kernel_rfl) (by kernel_rfl) ?_
      go_wp2
      refine Lex.sq_done (by rfl) ?_
      go_wp2
      refine bodyPost_ret (results_tmp rfl _ _ _) rfl ⟨.iface _ (.string t), rfl, ⟨_, rfl, .text t HW.out.2.2⟩, ?_, ?_⟩
      · exact ((HS2.out _ HB1.out).alloc _).drew
      · (repeat (first | with_reducible exact Only.refl _ _ | with_reducible exact Only.refl _ _ | with_reducible refine Only.drew ?_ | with_reducible refine Only.drewN ?_ _ | with_reducible refine Only.alloc ?_ _ | ((with_reducible refine Only.setCell ?_ ?_ _); rotate_left; (focus (first | (left; simp; done) | (right; simp; done) | (right; simp; omega) | (right; omega))))))
    · rw [show V.take _ _ _ = (none, room - 1 - t.size) from by unfold V.take; rw [if_neg (not_bad (by intro hx; simp at hx; omega))]; simp only [s]; simp]
      go_enter Try.func60, Try.ntmps60
      go_wp2
      refine Lex.wp_region_text (by kernel_rfl) (by kernel_rfl) ?_
      go_wp2
      refine Lex.sq_done (by rfl) ?_
      go_wp2
      refine bodyPost_ret (results_tmp rfl _ _ _) rfl ⟨.nilIface, rfl, rfl, ?_, ?_⟩
      · exact ((HS2.out _ HB1.out).alloc _).drew
      · (repeat (first | with_reducible exact Only.refl _ _ | with_reducible exact Only.refl _ _ | with_reducible refine Only.drew ?_ | with_reducible refine Only.drewN ?_ _ | with_reducible refine Only.alloc ?_ _ | ((with_reducible refine Only.setCell ?_ ?_ _); rotate_left; (focus (first | (left; simp; done) | (right; simp; done) | (right; simp; omega) | (right; omega))))))
  by_cases k6 : k = 6
  · subst k6
    by_cases c : t.size = 0
    case neg =>
      have c1 : t.toList.isEmpty = false := by rw [ByteArray.toList_eq]; cases h : t.data.toList with
        | nil => exact absurd (by rw [← Array.length_toList] at *; show t.data.size = 0; rw [← Array.length_toList, h]; rfl) c
        | cons => rfl
      have c2 : ¬ t.toList = [] := fun h => by rw [h] at c1; cases c1
      rw [take_bad (by omega)]
      go_enter Try.func60, Try.ntmps60
      go_wp2
      exact bodyPost_ret (results_tmp rfl _ _ _) rfl ⟨.nilIface, rfl, rfl, HB1.out.alloc _, ((Only.refl _ w).setCell (.inl (by simp)) _).alloc _⟩
    obtain rfl : t = ⟨#[]⟩ := by
      cases t with
      | mk d => exact congrArg ByteArray.mk (Array.eq_empty_of_size_eq_zero c)
    have c1 : (⟨#[]⟩ : ByteArray).toList = [] := by rw [ByteArray.toList_eq]
    by_cases d : r = 0
    case neg =>
      have d1 : ((r : Int) != 0) = true := by simp [d]
      rw [take_bad (by omega)]
      go_enter Try.func60, Try.ntmps60
      go_wp2
      exact bodyPost_ret (results_tmp rfl _ _ _) rfl ⟨.nilIface, rfl, rfl, HB1.out.alloc _, ((Only.refl _ w).setCell (.inl (by simp)) _).alloc _⟩
    subst d
    by_cases f : i = 0
    case neg =>
      have f1 : (i != 0) = true := by simp [f]
      rw [take_bad (by omega)]
      go_enter Try.func60, Try.ntmps60
      go_wp2
      exact bodyPost_ret (results_tmp rfl _ _ _) rfl ⟨.nilIface, rfl, rfl, HB1.out.alloc _, ((Only.refl _ w).setCell (.inl (by simp)) _).alloc _⟩
    subst f
    rw [show V.take _ _ _ = (if 8 < nest + 1 then (none, room - 1) else ((takes l (nest + 1) (room - 1)).1.map .list, (takes l (nest + 1) (room - 1)).2)) from by unfold V.take; rw [if_neg (not_bad (by intro hx; simp at hx; omega))]; simp]
    have HO := Lib.hid (show Only [p] w ((w.setCell ⟨p, 0, none⟩ (.int .i64 (room - 1))).alloc (.cells #[iv 6, iv 0, fv 0, .string ⟨#[]⟩, .slice a l.length cap] 33)) from ((Only.refl _ w).setCell (.inl (by simp)) _).alloc _)
    have HC := Lib.hid (H _ F _ p (room - 1) (nest + 1) (HK.out.keep HO.out.size (fun g hf hg => HO.out.block g hg (fun hm => hF (by simp at hm; exact hm ▸ hf))) fun _ h _ => h) hF (HB1.out.alloc _) (by omega) (by omega) (by omega))
    by_cases h8 : 8 < nest + 1
    · rw [if_pos h8] at HC ⊢
      go_enter Try.func60, Try.ntmps60
      go_wp2_with fail
      refine HC.out.mono ?_
      clear HC
      rintro e w2 ⟨u, rfl, hu, hb, ho⟩
      obtain rfl : u = .nilIface := hu
      have HQ := Lib.hid (And.intro hb ho)
      clear hb ho
      go_wp2
      exact bodyPost_ret (results_tmp rfl _ _ _) rfl ⟨.nilIface, rfl, rfl, HQ.out.1, HO.out.trans HQ.out.2⟩
    · rw [if_neg h8] at HC ⊢
      go_enter Try.func60, Try.ntmps60
      go_wp2_with fail
      refine HC.out.mono ?_
      clear HC
      rintro e w2 ⟨u, rfl, hu, hb, ho⟩
      have HQ := Lib.hid (And.intro hb ho)
      have HU := Lib.hid hu
      clear hb ho hu
      go_wp2
      refine bodyPost_ret (results_tmp rfl _ _ _) rfl ⟨u, rfl, ?_, HQ.out.1, HO.out.trans HQ.out.2⟩
      have := HU.out
      cases hr : (takes l (nest + 1) (room - 1)).1 with
      | none => rw [hr] at this; exact this
      | some xs =>
        rw [hr] at this
        obtain ⟨u', e, hi⟩ := this
        exact ⟨u', e, hi.mono fun g hg => Nat.le_trans HO.out.size hg⟩
  have q1 : (k == 1) = false := by simp [k1]
  have q2 : (k == 2) = false := by simp [k2]
  have q3 : (k == 3) = false := by simp [k3]
  have q4 : (k == 4) = false := by simp [k4]
  have q5 : (k == 5) = false := by simp [k5]
  have q6 : (k == 6) = false := by simp [k6]
  have p2 : (k != 2) = true := by simp [k2]
  have p3 : (k != 3) = true := by simp [k3]
  have p4 : (k != 4) = true := by simp [k4]
  have p5 : (k != 5) = true := by simp [k5]
  have p6 : (k != 6) = true := by simp [k6]
  by_cases b : l = []
  case neg =>
    have b1 : 0 < l.length := List.length_pos_iff.2 b
    rw [take_bad (by omega)]
    go_enter Try.func60, Try.ntmps60
    go_wp2
    exact bodyPost_ret (results_tmp rfl _ _ _) rfl ⟨.nilIface, rfl, rfl, HB1.out.alloc _, ((Only.refl _ w).setCell (.inl (by simp)) _).alloc _⟩
  subst b
  simp only [List.length_nil]
  by_cases c : t.size = 0
  case neg =>
    have c1 : t.toList.isEmpty = false := by rw [ByteArray.toList_eq]; cases h : t.data.toList with
      | nil => exact absurd (by rw [← Array.length_toList] at *; show t.data.size = 0; rw [← Array.length_toList, h]; rfl) c
      | cons => rfl
    have c2 : ¬ t.toList = [] := fun h => by rw [h] at c1; cases c1
    rw [take_bad (by omega)]
    go_enter Try.func60, Try.ntmps60
    go_wp2
    exact bodyPost_ret (results_tmp rfl _ _ _) rfl ⟨.nilIface, rfl, rfl, HB1.out.alloc _, ((Only.refl _ w).setCell (.inl (by simp)) _).alloc _⟩
  obtain rfl : t = ⟨#[]⟩ := by
    cases t with
    | mk d => exact congrArg ByteArray.mk (Array.eq_empty_of_size_eq_zero c)
  have c1 : (⟨#[]⟩ : ByteArray).toList = [] := by rw [ByteArray.toList_eq]
  by_cases d : r = 0
  case neg =>
    have d1 : ((r : Int) != 0) = true := by simp [d]
    rw [take_bad (by omega)]
    go_enter Try.func60, Try.ntmps60
    go_wp2
    exact bodyPost_ret (results_tmp rfl _ _ _) rfl ⟨.nilIface, rfl, rfl, HB1.out.alloc _, ((Only.refl _ w).setCell (.inl (by simp)) _).alloc _⟩
  subst d
  by_cases f : i = 0
  case neg =>
    have f1 : (i != 0) = true := by simp [f]
    rw [take_bad (by omega)]
    go_enter Try.func60, Try.ntmps60
    go_wp2
    exact bodyPost_ret (results_tmp rfl _ _ _) rfl ⟨.nilIface, rfl, rfl, HB1.out.alloc _, ((Only.refl _ w).setCell (.inl (by simp)) _).alloc _⟩
  subst f
  rw [show V.take _ _ _ = (none, room - 1) from by unfold V.take; rw [if_neg (not_bad (by intro hx; simp at hx; omega))]; simp [k1, k2, k3, k4, k5, k6]]
  go_enter Try.func60, Try.ntmps60
  go_wp2
  exact bodyPost_ret (results_tmp rfl _ _ _) rfl ⟨.nilIface, rfl, rfl, HB1.out.alloc _, ((Only.refl _ w).setCell (.inl (by simp)) _).alloc _⟩
end Go.Proofs.Ytffdfegelgpniaa
