/-
  The disk: a file's copy.
-/
import Derived.Test.YthekilgolelomaaKb
import Derived.Test.YthekilgolelomaaPMap
import Derived.Deep.RegionHeld3
import Derived.Lib.LazyBuf
set_option linter.unusedSimpArgs false
set_option linter.unusedVariables false
namespace Go.Proofs.Ythekilgolelomaa
open Go.RowKit Go.Fl

section
variable {w w' : World} {F G : Nat → Prop} {d : Nat} {p p' : PD} {fs : Nat → FD} {ids : Nat → Prop} {nb lb : Nat} {pv fv pv' fv' bv lv : Value}
set_option maxRecDepth 100000 in
theorem clone_ok {v : Value} {l : List UInt8} (h : Sl w 5 1 v l.length (byV l)) (hl : l.length ≤ 1073741824) : Calls Try.prog 62 #[v] w fun e w' => ∃ v', e = .returned v' ∧ Sl w' 5 1 v' l.length (byV l) ∧ Only [] w w' ∧ ∀ g, v'.ownBlock = some g → w.heap.size ≤ g := by
  obtain ⟨j5, si, sz0, sz1, sz2⟩ := info_parts info5
  have H := Lib.hid h
  have HL := Lib.hid hl
  have hq : ∀ (w : World) (a : Option Addr) (n c : Nat), (binOp .eql 29 (.slice a n c) (.slice none 0 0)).run Try.prog w = .ok (.bool a.isNone) w := fun w a n c => run_eql_slice_nil w _ _ a n c Try.underlying29
  rcases h.2 with ⟨rfl, h0⟩ | ⟨g, off, cap, cur, rfl, hh, hc, hm, hs, ht⟩
  · clear hl
    go_enter Try.func62, Try.ntmps62
    go_wp2
    refine bodyPost_ret (results_tmp rfl _ _ _) rfl ⟨_, rfl, by exact H.out, Only.refl _ _, by intro g hg; cases hg⟩
  · have HN := Lib.hid (show Sl (w.alloc (.cells #[] 5)) 5 1 (.slice (some ⟨w.heap.size, 0, none⟩) 0 0) 0 [] from sl_new (n := 0) (Blk.new w 5 #[]) (by simp) (by decide))
    have HA := Lib.hid (h.alloc (.cells #[] 5))
    clear h hh hc hm hs ht hl
    go_enter Try.func62, Try.ntmps62
    go_wp2_with (at_builtin; refine wpList_append_sls rfl (.tmp 5) (.tmp 6) 29 rfl 5 j5 _ 1 1 Try.underlying29 si sz0 sz1 sz2 rfl (by decide) rfl HN.out rfl HA.out (by intro u hu; obtain ⟨c, _, rfl⟩ := List.mem_map.1 hu; rfl) (by have := HL.out; unfold maxLen; omega) (by have := HL.out; omega) ?_)
    intro u wu hSu hgu hatu
    have HO := Lib.hid (show Only [] w wu from ((Only.refl _ _).alloc _).grown hgu fun k hk => .inr (by simp [Value.ownBlock] at hk; omega))
    have HS := Lib.hid (show Sl wu 5 1 u l.length (byV l) by simpa using hSu)
    have HW := Lib.hid (show ∀ g, u.ownBlock = some g → w.heap.size ≤ g from fun g hg => by
      rcases hatu with e | e
      · rw [e] at hg
        simp [Value.ownBlock] at hg
        omega
      · rw [e] at hg
        simp at hg
        omega)
    clear hSu hgu hatu HN HA
    go_wp2
    exact bodyPost_ret (results_tmp rfl _ _ _) rfl ⟨_, rfl, by exact HS.out, HO.out, by exact HW.out⟩
/-- A new file's block. -/
theorem fcopy_fact {i : Nat} {f : FD} (h : FM w i f bv lv) {w1 w2 : World} {b' l' : Value} (h1 : Only [] w w1) (h2 : Only [] w1 w2) (hb : Sl w1 5 1 b' f.b.length (byV f.b)) (hl : Sl w2 5 1 l' f.lasts.length (byV f.lasts))
    (ob : ∀ g, b'.ownBlock = some g → w.heap.size ≤ g) (ol : ∀ g, l'.ownBlock = some g → w1.heap.size ≤ g) :
    FM (w2.alloc (.cells #[b', l', iv f.marked] 87)) w2.heap.size f b' l' ∧ Only [] w (w2.alloc (.cells #[b', l', iv f.marked] 87)) ∧ w.heap.size ≤ w2.heap.size ∧ (∀ g, l'.ownBlock = some g → w.heap.size ≤ g) ∧ ∀ g, b'.ownBlock = some g → l'.ownBlock ≠ some g :=
  ⟨⟨Blk.new _ _ _, (hb.only h2 (by simp)).alloc _, hl.alloc _, h.ok⟩, (h1.trans h2).alloc _, Nat.le_trans h1.size h2.size, fun g hg => Nat.le_trans h1.size (ol g hg), fun g hg hg2 => by
    have := hb.lt g hg
    have := ol g hg2
    omega⟩
set_option maxRecDepth 100000 in
set_option maxHeartbeats 1600000 in
theorem fcopy_ok {i : Nat} {f : FD} (h : FM w i f bv lv) : Calls Try.prog 58 #[fp i] w fun e w' => ∃ y, e = .returned (fp y) ∧ ∃ b' l', w.heap.size ≤ y ∧ FM w' y f b' l' ∧ Only [] w w' ∧
    (∀ g, b'.ownBlock = some g → w.heap.size ≤ g) ∧ (∀ g, l'.ownBlock = some g → w.heap.size ≤ g) ∧ ∀ g, b'.ownBlock = some g → l'.ownBlock ≠ some g := by
  have H := Lib.hid h
  have HCB := Lib.hid (fun wx (ho : Only [] w wx) => clone_ok (FM.only0 h ho).b h.ok.2.2)
  have HCL := Lib.hid (fun wx (ho : Only [] w wx) => clone_ok (FM.only0 h ho).l (Nat.le_trans h.ok.1 h.ok.2.2))
  have HY := Lib.hid (fun wx (ho : Only [] w wx) => show wx.cell? ⟨i, 0, none⟩ = some bv ∧ wx.cell? ⟨i, 1, none⟩ = some lv ∧ wx.cell? ⟨i, 2, none⟩ = some (iv f.marked) from by
    have hb := (FM.only0 h ho).blk
    exact ⟨hb.cell 0, hb.cell 1, hb.cell 2⟩)
  have HK0 := HY.out w (Only.refl _ _)
  have xl := h.blk.lt
  clear h
  go_enter Try.func58, Try.ntmps58
  go_upto_region 1 with fail
  go_region_held3 (fun w' => w'.cell? ⟨i, 0, none⟩ = some bv ∧ w'.cell? ⟨i, 1, none⟩ = some lv ∧ w'.cell? ⟨i, 2, none⟩ = some (iv f.marked)) (first | exact HK0 | exact HK1 | exact HK2 | go_keep) (first
    | (go_at_call 62; refine (HCB.out _ (by first | exact Only.refl _ _ | exact (Only.refl _ _).drew | exact (Only.refl _ _).drewN _)).mono ?_
       rintro e w1 ⟨b', rfl, hb1, ho1, hw1⟩
       obtain ⟨ua, uc, hbe, _, _⟩ := hb1.shape
       subst hbe
       have HB1 := Lib.hid hb1
       have HO1 : Hid (Only [] w w1) := Lib.hid (by first | exact ho1 | exact (Only.refl [] w).drew.trans ho1)
       have HW1 : Hid (∀ g, (Value.slice ua f.b.length uc).ownBlock = some g → w.heap.size ≤ g) := Lib.hid hw1
       have HK1 := HY.out w1 HO1.out
       clear hb1 ho1 hw1)
    | (go_at_call 62; refine (HCL.out _ (by first | exact HO1.out | exact HO1.out.drew | exact HO1.out.drewN _)).mono ?_
       rintro e w2 ⟨l', rfl, hl2, ho2, hw2⟩
       obtain ⟨la, lc, hle, _, _⟩ := hl2.shape
       subst hle
       have HL2 := Lib.hid hl2
       have HO2 : Hid (Only [] w1 w2) := Lib.hid (by first | exact ho2 | exact (Only.refl [] w1).drew.trans ho2)
       have HW2 : Hid (∀ g, (Value.slice la f.lasts.length lc).ownBlock = some g → w1.heap.size ≤ g) := Lib.hid hw2
       have HK2 := HY.out w2 (HO1.out.trans HO2.out)
       clear hl2 ho2 hw2))
  have HF := Lib.hid (fcopy_fact H.out HO1.out HO2.out HB1.out HL2.out HW1.out HW2.out)
  go_wp2_with fail
  exact bodyPost_ret (results_tmp rfl _ _ _) rfl ⟨_, rfl, _, _, HF.out.2.2.1, HF.out.1, HF.out.2.1, HW1.out, HF.out.2.2.2.1, HF.out.2.2.2.2⟩
end
end Go.Proofs.Ythekilgolelomaa
