/-
  ClockAll: Cancel.
-/
import Derived.Test.YtjnhplgdbdneiaaGc
set_option linter.unusedSimpArgs false
set_option linter.unusedVariables false
namespace Go.Proofs.Ytjnhplgdbdneiaa
open Go.RowKit Go.Fl

set_option maxRecDepth 100000 in
theorem clo38 (w : World) (a id : Int) (b box : Nat) (hb : Blk w box 3 #[iv id]) : Calls Try.prog 38 #[.agg #[iv a, fv b], cp box] w fun e w' => e = .returned (.bool (a == id)) ∧ Only [] w w' := by
  have HO := Lib.hid (show Only [] w (w.alloc (.cells #[iv a, fv b] 70)) from (Only.refl _ _).alloc _)
  have HB1 := (Blk.new w 70 #[iv a, fv b]).cell 0
  have HB2 := (hb.alloc (.cells #[iv a, fv b] 70)).cell 0
  simp at HB1 HB2
  clear hb
  go_enter Try.func38, Try.ntmps38
  go_wp2
  exact bodyPost_ret (results_tmp rfl _ _ _) rfl ⟨rfl, HO.out⟩
/-- What IndexFunc answers. -/
def IdxPost (w : World) (l : List Tm) (id : Int) (e : Ending) (w' : World) : Prop :=
  ((∃ i : Nat, i < l.length ∧ (l.getD i (0, 0)).1 = id ∧ e = .returned (iv i)) ∨ ((∀ x ∈ l, x.1 ≠ id) ∧ e = .returned (iv (-1)))) ∧ Only [] w w'
set_option maxRecDepth 100000 in
set_option maxHeartbeats 1600000 in
theorem index37 (w : World) {l : List Tm} {s : Value} {box : Nat} {id : Int} (h : Sl w 70 2 s l.length (tcs l)) (hb : Blk w box 3 #[iv id]) (hlen : l.length ≤ 1048576) :
    Calls Try.prog 37 #[s, .func (.func 38) #[] #[cp box]] w (IdxPost w l id) := by
  obtain ⟨a, c, rfl, hnc, _⟩ := h.shape
  have H := Lib.hid h
  have HB := Lib.hid hb
  have HLL := Lib.hid hlen
  obtain ⟨N, hN⟩ : ∃ N, N = l.length := ⟨_, rfl⟩
  have HN := Lib.hid hN
  rw [← hN]
  have HNC := Lib.hid hnc
  clear h hb hlen hN hnc
  go_enter Try.func37, Try.ntmps37
  go_wp2
  go_loopw [8] (fun z wr => ∃ k : Nat, z = .int .i64 k ∧ Hid (k ≤ N) ∧ Hid (Only [] w wr) ∧ Hid (∀ j, j < k → (l.getD j (0, 0)).1 ≠ id)) (fun z _ => N - (intOf z).toNat)
  case atStart => exact ⟨0, rfl, Lib.hid (Nat.zero_le _), Lib.hid (Only.refl _ _), Lib.hid (fun j h => absurd h (Nat.not_lt_zero _))⟩
  case round =>
    obtain ⟨k, rfl, HK, HO, HX⟩ := hrel
    by_cases hkl : k < N
    case neg =>
      have hkz : ¬ (k : Int) < (N : Int) := by omega
      have HKE := Lib.hid (show k = l.length by have := HK.out; have := HN.out; omega)
      clear hkl
      go_wp2
      refine bodyPost_ret (results_tmp rfl _ _ _) rfl ?_
      exact ⟨.inr ⟨fun x hx => by
        obtain ⟨j, hj, e⟩ := List.mem_iff_getElem.1 hx
        have := HX.out j (by have := HKE.out; omega)
        rw [getD_getElem hj, e] at this
        exact this, rfl⟩, HO.out⟩
    have hkz : (k : Int) < (N : Int) := by omega
    have hka : k < l.length := by have := HN.out; omega
    obtain ⟨g, o, c', hv, hfm⟩ := H.out.form (by omega)
    injection hv with hva hvl hvc
    subst hva
    subst hvc
    clear hvl hfm
    obtain ⟨y0, y1⟩ := TSl.at_ (H.out.only HO.out (fun _ _ => by simp)) hka
    obtain ⟨y, hy⟩ : ∃ y, l.getD k (0, 0) = y := ⟨_, rfl⟩
    have HY := Lib.hid hy
    rw [hy] at y0 y1
    have HKA := Lib.hid hka
    have HKL := Lib.hid hkl
    have HQ := Lib.hid (fun wx (ho : Only [] wr wx) => clo38 wx y.1 id y.2 box ((HB.out.only HO.out (by simp)).only ho (by simp)))
    have e1 : wrap64 ((k : Int) + 1) = ((k + 1 : Nat) : Int) := wrap_sm (HN.out ▸ HLL.out) hkl
    clear hy hka hkl
    by_cases hid : y.1 = id
    · have HID := Lib.hid hid
      have HQ2 := Lib.hid (HQ.out wr (Only.refl _ _))
      rw [show (y.1 == id) = true by rw [hid]; exact beq_self_eq_true _] at HQ2
      clear hid HQ
      go_wp2_with (first | (go_at_call 38; refine HQ2.out.mono ?_; rintro e w2 ⟨rfl, ho⟩))
      refine bodyPost_ret (results_tmp rfl _ _ _) rfl ?_
      exact ⟨.inl ⟨k, HKA.out, by rw [HY.out]; exact HID.out, rfl⟩, HO.out.trans ho⟩
    · have HID := Lib.hid hid
      have HQ2 := Lib.hid (HQ.out wr (Only.refl _ _))
      rw [show (y.1 == id) = false from beq_eq_false_iff_ne.2 hid] at HQ2
      clear hid HQ
      go_wp2_with (first | (go_at_call 38; refine HQ2.out.mono ?_; rintro e w2 ⟨rfl, ho⟩))
      go_roundw
      case measure => (try rw [e1]); exact meas (by have := HKL.out; omega)
      case rel => exact ⟨k + 1, by first | rfl | rw [e1], Lib.hid HKL.out, Lib.hid (HO.out.trans ho), Lib.hid (fun j hj => by
        rcases Nat.lt_succ_iff_lt_or_eq.1 hj with hj | hj
        · exact HX.out j hj
        · subst hj; rw [HY.out]; exact HID.out)⟩
/-- What Cancel answers, and leaves. -/
def CanPost (w : World) (r now : Nat) (last : Int) (l : List Tm) (s : Value) (id : Int) (e : Ending) (w' : World) : Prop :=
  (∃ i, i < l.length ∧ (l.getD i (0, 0)).1 = id ∧ e = .returned (iv 0) ∧ ∃ s', CK w' r now last ((hrot l i).take (l.length - 1)) s' ∧ GW w r s w' s') ∨ ((∀ x ∈ l, x.1 ≠ id) ∧ e = .returned (iv 6) ∧ Only [] w w')
set_option maxRecDepth 100000 in
set_option maxHeartbeats 1600000 in
theorem cancel19 (w : World) {r now : Nat} {last : Int} {l : List Tm} {s : Value} (id : Int) (h : CK w r now last l s) (hlen : l.length ≤ 1048576) : Calls Try.prog 19 #[cp r, iv id] w (CanPost w r now last l s id) := by
  have HO := Lib.hid (show Only [] w (w.alloc (.cells #[iv id] 3)) from (Only.refl _ _).alloc _)
  have HB := Lib.hid (Blk.new w 3 #[iv id])
  have HC := Lib.hid (h.only0 HO.out)
  have HLL := Lib.hid hlen
  have H := Lib.hid h
  have HT := Lib.hid (there_ck HC.out)
  clear h hlen
  go_enter Try.func19, Try.ntmps19
  go_wp2_with fail
  refine HT.out.mono ?_
  clear HT
  rintro e w1 ⟨rfl, rfl⟩
  generalize w.heap.size = box at *
  generalize w.alloc (.cells #[iv id] 3) = w1 at *
  have x3 := HC.out.blk.cell 3
  have xl := HC.out.blk.lt
  simp at x3
  have HQ := Lib.hid (index37 w1 HC.out.sl HB.out HLL.out)
  go_wp2_with fail
  refine HQ.out.mono ?_
  clear HQ
  rintro e w2 ⟨(⟨i, hi, hid, rfl⟩ | ⟨hno, rfl⟩), ho⟩
  · have HC2 := Lib.hid (HC.out.only0 ho)
    have HO2 := Lib.hid (HO.out.trans ho)
    have HI := Lib.hid (And.intro hi hid)
    obtain ⟨g, off, cap, hsv, hfm⟩ := HC2.out.sl.form (by omega)
    clear hfm
    subst hsv
    obtain ⟨N, hN⟩ : ∃ N, l.length = N := ⟨_, rfl⟩
    obtain ⟨n, hn⟩ : ∃ n, N = n + 1 := ⟨N - 1, by omega⟩
    have HC3 := Lib.hid (show CK w2 r now last l (.slice (some ⟨g, off, none⟩) N cap) by rw [← hN]; exact HC2.out)
    have HQ := Lib.hid (remove39 w2 HC3.out hN hn (by have := HLL.out; omega) (by omega : i < N))
    have HG := Lib.hid (show ∀ g', (Value.slice (some ⟨g, off, none⟩) n cap).ownBlock = some g' → (Value.slice (some ⟨g, off, none⟩) l.length cap).ownBlock = some g' ∨ w.heap.size ≤ g' from fun g' hg' => .inl hg')
    have hiz : ¬ (i : Int) < 0 := by omega
    clear hi hid ho hN hn x3 xl
    go_wp2_with fail
    refine HQ.out.mono ?_
    rintro e w3 ⟨⟨v, rfl⟩, hc, ho3⟩
    have HF := Lib.hid (show CanPost w r now last l (.slice (some ⟨g, off, none⟩) l.length cap) id (.returned (iv 0)) w3 from .inl ⟨i, HI.out.1, HI.out.2, rfl, _, hc, (HO2.out.mono (by simp)).trans (ho3.mono (by simp [Value.ownBlock])), HG.out⟩)
    clear hc ho3
    go_wp2
    refine bodyPost_ret (results_tmp rfl _ _ _) rfl ?_
    exact HF.out
  · have HF := Lib.hid (show CanPost w r now last l s id (.returned (iv 6)) w2 from .inr ⟨hno, rfl, HO.out.trans ho⟩)
    clear hno ho
    go_wp2
    refine bodyPost_ret (results_tmp rfl _ _ _) rfl ?_
    exact HF.out
end Go.Proofs.Ytjnhplgdbdneiaa
