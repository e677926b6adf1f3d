/-
  Package name: Order of the four texts that the law begins with; begun.
-/
import Derived.Test.YtbcckaaleoofhaaNj
namespace Go.Proofs.Ytbcckaaleoofhaa
open Go.RowKit Go.Fl

abbrev tU : Value := .string ⟨#[66]⟩
theorem mayT (w : World) (c : UInt8) (b : Bool) (h : mayB [c] = b) : Calls Try.prog 8 #[.string ⟨#[c]⟩] w fun e w' => e = .returned (.bool b) ∧ w' = w := by
  have := may_ok [c] w
  rw [h] at this
  exact this
theorem own_step {w w2 : World} {v v2 : Value} {m : Nat} (hF : ∀ g, v.ownBlock = some g → w.heap.size ≤ g) (hat : v2.ownBlock = v.ownBlock ∨ v2.ownBlock = some m) (hs : w.heap.size ≤ w2.heap.size) (h3 : w2.heap.size ≤ m) : ∀ g, v2.ownBlock = some g → w.heap.size ≤ g := by
  intro g hg
  rcases hat with h | h
  · exact hF g (h ▸ hg)
  · rw [h] at hg; injection hg with hg; omega


set_option maxRecDepth 100000 in
set_option maxHeartbeats 3200000 in
theorem order_ok {g : Nat} (w : World) (h : Blk w g 9 #[tB, tA, tB, tU]) :
    Calls Try.prog 14 #[.slice (some ⟨g, 0, none⟩) 4 4] w fun e w' => (∃ a c, e = .returned (.slice (some a) 2 c)) ∧ Only [] w w' := by
  obtain ⟨j9, si, sz0, sz1, sz2⟩ := info_parts info9
  have HX := Lib.hid h
  clear h
  go_enter Try.func14, Try.ntmps14
  go_wp2
  go_loopw [3, 8] (fun v i wr => ∃ xs : List Value, ((i = .int .i64 0 ∧ xs = []) ∨ (i = .int .i64 1 ∧ xs = [tB]) ∨ (i = .int .i64 2 ∧ xs = [tB, tA]) ∨ (i = .int .i64 3 ∧ xs = [tB, tA, tB]) ∨ (i = .int .i64 4 ∧ xs = [tB, tA, tB])) ∧ Hid (Sl wr 9 1 v xs.length xs) ∧ Hid (∀ g, v.ownBlock = some g → w.heap.size ≤ g) ∧ Hid (Only [] w wr)) (fun _ i _ => 4 - (intOf i).toNat)
  case atStart => exact ⟨[], .inl ⟨rfl, rfl⟩, Lib.hid (Sl.nil _ _ _), Lib.hid (fun g hg => by simp [Value.ownBlock] at hg), Lib.hid (Only.refl _ _)⟩
  case round =>
    obtain ⟨xs, hc, HS, HF, HO⟩ := hrel
    rcases hc with ⟨rfl, rfl⟩ | ⟨rfl, rfl⟩ | ⟨rfl, rfl⟩ | ⟨rfl, rfl⟩ | ⟨rfl, rfl⟩
    · have k0 := HS
      have hX := HX.out.only HO.out (by simp)
      obtain ⟨xc, xf, xlt⟩ := hX.facts
      have HM := Lib.hid (mayT wr _ true (show mayB [98] = true by kernel_rfl))
      clear hX
      go_wp2_with fail
      refine HM.out.mono ?_
      clear HM
      rintro e w1 ⟨rfl, rfl⟩
      go_wp2_with (at_builtin; refine wpList_append_one (news := [.string ⟨#[98]⟩]) rfl (.tmp 14) (.tmp 16) 22 rfl 9 j9 _ 1 16 Try.underlying22 si sz0 sz1 sz2 rfl (by decide) rfl (HS.out.alloc _) rfl (Blk.new _ _ _) rfl (by simp [Value.oneCell']) (by simp [maxLen]) (by simp) ?_)
      intro v2 w2 hS2 hg2 hat2
      have HS2 := Lib.hid hS2
      have HF2 := Lib.hid (own_step (w2 := w1) HF.out hat2 HO.out.size (by simp))
      have HO2 := Lib.hid ((HO.out.alloc (.cells #[.string ⟨#[98]⟩] 9)).grown hg2 (fun k hk => .inr (HF.out k hk)))
      clear hS2 hg2 hat2
      go_wp2
      go_roundw
      case measure => simp [intOf]
      case rel => exact ⟨[tB], .inr (.inl ⟨rfl, rfl⟩), HS2, HF2, HO2⟩
    · have k0 := HS
      have hX := HX.out.only HO.out (by simp)
      obtain ⟨xc, xf, xlt⟩ := hX.facts
      have HM := Lib.hid (mayT wr _ true (show mayB [97] = true by kernel_rfl))
      clear hX
      go_wp2_with fail
      refine HM.out.mono ?_
      clear HM
      rintro e w1 ⟨rfl, rfl⟩
      go_wp2_with (at_builtin; refine wpList_append_one (news := [.string ⟨#[97]⟩]) rfl (.tmp 14) (.tmp 16) 22 rfl 9 j9 _ 1 16 Try.underlying22 si sz0 sz1 sz2 rfl (by decide) rfl (HS.out.alloc _) rfl (Blk.new _ _ _) rfl (by simp [Value.oneCell']) (by simp [maxLen]) (by simp) ?_)
      intro v2 w2 hS2 hg2 hat2
      have HS2 := Lib.hid hS2
      have HF2 := Lib.hid (own_step (w2 := w1) HF.out hat2 HO.out.size (by simp))
      have HO2 := Lib.hid ((HO.out.alloc (.cells #[.string ⟨#[97]⟩] 9)).grown hg2 (fun k hk => .inr (HF.out k hk)))
      clear hS2 hg2 hat2
      go_wp2
      go_roundw
      case measure => simp [intOf]
      case rel => exact ⟨[tB, tA], .inr (.inr (.inl ⟨rfl, rfl⟩)), HS2, HF2, HO2⟩
    · have k0 := HS
      have hX := HX.out.only HO.out (by simp)
      obtain ⟨xc, xf, xlt⟩ := hX.facts
      have HM := Lib.hid (mayT wr _ true (show mayB [98] = true by kernel_rfl))
      clear hX
      go_wp2_with fail
      refine HM.out.mono ?_
      clear HM
      rintro e w1 ⟨rfl, rfl⟩
      go_wp2_with (at_builtin; refine wpList_append_one (news := [.string ⟨#[98]⟩]) rfl (.tmp 14) (.tmp 16) 22 rfl 9 j9 _ 1 16 Try.underlying22 si sz0 sz1 sz2 rfl (by decide) rfl (HS.out.alloc _) rfl (Blk.new _ _ _) rfl (by simp [Value.oneCell']) (by simp [maxLen]) (by simp) ?_)
      intro v2 w2 hS2 hg2 hat2
      have HS2 := Lib.hid hS2
      have HF2 := Lib.hid (own_step (w2 := w1) HF.out hat2 HO.out.size (by simp))
      have HO2 := Lib.hid ((HO.out.alloc (.cells #[.string ⟨#[98]⟩] 9)).grown hg2 (fun k hk => .inr (HF.out k hk)))
      clear hS2 hg2 hat2
      go_wp2
      go_roundw
      case measure => simp [intOf]
      case rel => exact ⟨[tB, tA, tB], .inr (.inr (.inr (.inl ⟨rfl, rfl⟩))), HS2, HF2, HO2⟩
    · have hX := HX.out.only HO.out (by simp)
      obtain ⟨xc, xf, xlt⟩ := hX.facts
      have HM := Lib.hid (mayT wr 66 false (show mayB [66] = false by kernel_rfl))
      clear hX
      go_wp2_with fail
      refine HM.out.mono ?_
      clear HM
      rintro e w1 ⟨rfl, rfl⟩
      go_wp2
      go_roundw
      case measure => simp [intOf]
      case rel => exact ⟨[tB, tA, tB], .inr (.inr (.inr (.inr ⟨rfl, rfl⟩))), HS, HF, HO⟩
    · obtain ⟨g2, o, c, hv, hg, _, _, _, _⟩ := HS.out.form (by simp)
      have HSo := HS
      rw [hv] at HS
      have HN := Lib.hid (show w.heap.size ≤ g2 from HF.out g2 (by rw [hv]; rfl))
      have HC := Lib.hid (sort_ok wr HS.out)
      clear HSo HF
      subst hv
      go_wp2_with fail
      refine HC.out.mono ?_
      clear HC
      rintro e w2 ⟨rfl, hS2, hO2⟩
      have HC := Lib.hid (compact_ok w2 hS2)
      have HO2 := Lib.hid (HO.out.trans' hO2 (fun i hi => .inr (by simp at hi; rw [hi]; exact HN.out)))
      clear hS2 hO2
      go_wp2_with fail
      refine HC.out.mono ?_
      clear HC
      rintro e w3 ⟨rfl, hO3⟩
      have HO3 := Lib.hid (HO2.out.trans' hO3 (fun i hi => .inr (by simp at hi; rw [hi]; exact HN.out)))
      clear hO3
      go_wp2
      exact bodyPost_ret (results_tmp rfl _ _ _) rfl ⟨⟨_, _, rfl⟩, HO3.out⟩
end Go.Proofs.Ytbcckaaleoofhaa
