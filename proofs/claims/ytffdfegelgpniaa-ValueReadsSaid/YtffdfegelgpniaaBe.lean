/-
  Copy.
-/
import Derived.Test.YtffdfegelgpniaaBd
set_option linter.unusedSimpArgs false
set_option linter.unusedVariables false
namespace Go.Proofs.Ytffdfegelgpniaa
open Go.RowKit Go.Fl

/-- What Copy answers. -/
def CopyPost (w : World) (x : Option I) (e : Ending) (w' : World) : Prop :=
  match x with
  | none => e = .returned (.tuple #[.agg zeroV.toArray, iv 1]) ∧ Only [] w w'
  | some x => ∃ cs S, e = .returned (.tuple #[.agg cs.toArray, iv 0]) ∧ VO w' x.toV cs S ∧ S.Nodup ∧ (∀ g ∈ S, w.heap.size ≤ g) ∧ Only [] w w'
set_option maxRecDepth 100000 in
theorem copy_ok {w : World} {F : Nat → Prop} {v : V} {cs : List Value} (h : VIs w F v cs) : Calls Try.prog 24 #[.agg cs.toArray] w (CopyPost w v.item) := by
  have H := Lib.hid h
  obtain ⟨k, i, r, t, a, n, cap, rfl⟩ := h.five
  clear h
  have HT := Lib.hid (made_ok (H.out.only0 (w' := (w.alloc (.cells #[iv k, iv i, fv r, .string t, .slice a n cap] 33)).alloc (.cells zeroV.toArray 33)) (((Only.refl _ w).alloc _).alloc _)))
  have HB2 := Lib.hid (show Blk ((w.alloc (.cells #[iv k, iv i, fv r, .string t, .slice a n cap] 33)).alloc (.cells zeroV.toArray 33)) (w.heap.size + 1) 33 zeroV.toArray by
    have h := Blk.new (w.alloc (.cells #[iv k, iv i, fv r, .string t, .slice a n cap] 33)) 33 zeroV.toArray
    rw [show (w.alloc (.cells #[iv k, iv i, fv r, .string t, .slice a n cap] 33)).heap.size = w.heap.size + 1 by simp] at h
    exact h)
  have HI := Lib.hid (fun x (hx : v.item = some x) => item_size hx)
  generalize v.item = vi at *
  go_enter Try.func24, Try.ntmps24
  go_wp2_with fail
  refine HT.out.mono ?_
  clear HT
  rintro e w2 ⟨u, rfl, hu, ho⟩
  have HO := Lib.hid ((((Only.refl _ w).alloc _).alloc _).trans ho)
  have HB := Lib.hid (HB2.out.only ho (by simp))
  clear ho HB2
  cases vi with
  | none =>
    obtain rfl : u = .nilIface := hu
    have hb := HB.out
    go_wp2_with (refine wpList_store_blk rfl 33 (.tmp 2) (.tmp 9) rfl zeroV rfl rfl hb (by kernel_rfl) (by simp) (by simp [Value.oneCell']) ?_)
    intro w3 hB3 hO3
    have HB3 := Lib.hid (show Blk w3 (w.heap.size + 1) 33 zeroV.toArray from hB3)
    have HO3 := Lib.hid hO3
    clear hB3 hO3 hb
    go_wp2
    exact bodyPost_ret (results2 rfl (res_blk (cs := zeroV) Try.underlying33 (by kernel_rfl) rfl HB3.out) (res_tmp rfl)) rfl ⟨rfl, HO.out.trans' HO3.out fun i hi => .inr (by simp at hi; omega)⟩
  | some x =>
    obtain ⟨u', rfl, hx⟩ := hu
    have HS := Lib.hid (plain_ok x w2 _ u' hx (HI.out x rfl))
    have hm1 := m_plain hx
    have hm2 := c_plain x
    clear hx HI
    go_wp2_with fail
    refine HS.out.mono ?_
    clear HS hm1 hm2
    rintro e w3 ⟨cs, S, rfl, hvo, hnd, hge, ho⟩
    obtain ⟨k0, i0, r0, t0, sa0, sn0, sc0, rfl⟩ := hvo.form
    have HV := Lib.hid hvo
    have HN := Lib.hid hnd
    have HG := Lib.hid hge
    have HO2 := Lib.hid (HO.out.trans ho)
    have hb := HB.out.only ho (by simp)
    have HSZ := Lib.hid HO.out.size
    have HLT := Lib.hid (show w.heap.size + 1 < w2.heap.size from HB.out.lt)
    clear hvo hnd hge ho HB HO
    go_wp2_with (refine wpList_store_blk rfl 33 (.tmp 2) (.tmp 11) rfl [iv k0, iv i0, fv r0, .string t0, .slice sa0 sn0 sc0] rfl rfl hb (by kernel_rfl) (by simp) (by simp [Value.oneCell']) ?_)
    intro w4 hB4 hO4
    have HB4 := Lib.hid (show Blk w4 (w.heap.size + 1) 33 #[iv k0, iv i0, fv r0, .string t0, .slice sa0 sn0 sc0] from hB4)
    have HO4 := Lib.hid hO4
    clear hB4 hO4 hb
    go_wp2
    exact bodyPost_ret (results2 rfl (res_blk (cs := [iv k0, iv i0, fv r0, .string t0, .slice sa0 sn0 sc0]) Try.underlying33 (by kernel_rfl) rfl HB4.out) (res_tmp rfl)) rfl ⟨_, S, rfl, HV.out.only HO4.out (fun g hg hm => by
      have := HG.out g hg; have := HLT.out; simp at hm; omega), HN.out, (fun g hg => Nat.le_trans HSZ.out (HG.out g hg)), HO2.out.trans' HO4.out fun i hi => .inr (by simp at hi; omega)⟩
end Go.Proofs.Ytffdfegelgpniaa
