/-
  The disk: Tails.
-/
import Derived.Test.YthekilgolelomaaDt
set_option linter.unusedSimpArgs false
set_option linter.unusedVariables false
namespace Go.Proofs.Ythekilgolelomaa
open Go.RowKit Go.Fl

theorem sl_new {w : World} {g t n size : Nat} {cs : Array Value} (h : Blk w g t cs) (hs : cs.size = n * size) (hn : n ≤ maxLen) : Sl w t size (.slice (some ⟨g, 0, none⟩) n n) n cs.toList :=
  ⟨by simpa using hs, .inr ⟨g, 0, n, cs, rfl, h, Nat.le_refl _, hn, by rw [hs]; omega, by rw [List.drop_zero, List.take_of_length_le (by simp [hs])]⟩⟩
theorem doAll_ids {ids : Nat → Prop} : ∀ {l : List Chg} {d : Dir}, (∀ x ∈ d, ids x.2) → (∀ c ∈ l, ∀ i ∈ c.ids, ids i) → ∀ x ∈ doAll d l, ids x.2
  | [], _, h, _ => h
  | c :: l, d, h, hc => by
    show ∀ x ∈ doAll (c.do_ d) l, ids x.2
    refine doAll_ids (l := l) (fun x hx => ?_) fun c' hc' => hc c' (List.mem_cons_of_mem _ hc')
    cases c with
    | cr s f =>
      rcases Dir.mem_put.1 hx with rfl | hx
      · exact hc (.cr s f) (by simp) f (by simp [Chg.ids])
      · exact h x hx.1
    | rm s => exact h x (Dir.mem_del.1 hx).1
    | rn a b =>
      have hx' : x ∈ (match d.get a with | some f => (d.del a).put b f | none => d) := hx
      cases hg : d.get a with
      | none => rw [hg] at hx'; exact h x hx'
      | some f =>
        rw [hg] at hx'
        rcases Dir.mem_put.1 hx' with rfl | hx2
        · exact h (a, f) (Dir.get_mem hg)
        · exact h x (Dir.mem_del.1 hx2.1).1
theorem Live.after {p : PD} {ids : Nat → Prop} (h : Live p ids) (n : Int) : ∀ x ∈ p.after n, ids x.2 :=
  doAll_ids h.last fun c hc => h.pend c (List.mem_of_mem_take hc)
theorem PD.Ok.after {p : PD} (h : p.Ok) (n : Int) : Dir.Srt (p.after n) ∧ (p.after n).length ≤ 256 ∧ ∀ x ∈ p.after n, x.1.length ≤ 64 := ⟨doAll_srt h.slast _, (h.pre n.toNat).1, (h.pre n.toNat).2⟩
/-- Tails' cells. -/
def tcs (fs : Nat → FD) (l : Dir) : List Value := (l.map fun x => [sk x.1, iv (fs x.2).tail.length]).flatten
theorem tcs_snoc (fs : Nat → FD) (l : Dir) (k : Nat) (h : k < l.length) : tcs fs (l.take (k + 1)) = tcs fs (l.take k) ++ [sk (l[k]).1, iv (fs (l[k]).2).tail.length] := by
  unfold tcs
  rw [List.take_succ_eq_append_getElem h, List.map_append, List.flatten_append]
  simp
theorem info78 : (Try.prog.info? 77).map (fun i => (i.zero, i.size, i.bytes)) = some (some (.agg #[.string ⟨#[]⟩, .int .i64 0]), 2, 24) := by kernel_rfl
section
variable {w w' : World} {F G : Nat → Prop} {d : Nat} {p p' : PD} {fs : Nat → FD} {ids : Nat → Prop} {nb lb : Nat} {pv fv pv' fv' : Value} {bv lv : Nat → Value}
set_option maxRecDepth 100000 in
set_option maxHeartbeats 3200000 in
theorem tails_ok (h0 : DK w F d p fs ids) (hpl : p.pend.length ≤ 1048576) (n : Int) : Calls Try.prog 29 #[cp d, iv n] w fun e w' =>
    ∃ v, e = .returned v ∧ Sl w' 77 2 v (p.after n).length (tcs fs (p.after n)) ∧ Only [] w w' ∧ ∀ g, v.ownBlock = some g → w.heap.size ≤ g := by
  obtain ⟨⟨nb, lb, pv, fv, bv, lv, h⟩, hF⟩ := h0
  obtain ⟨j5, si, sz0, sz1, sz2⟩ := info_parts info78
  have H := Lib.hid h
  have HAF := Lib.hid (after_ok h.dm h.ok.ok hpl n)
  have HA := Lib.hid (h.ok.after n)
  have HID := Lib.hid (h.live.after n)
  obtain ⟨A, hA⟩ : ∃ A, p.after n = A := ⟨_, rfl⟩
  rw [hA] at HAF HA HID ⊢
  clear h hF hA hpl
  go_enter Try.func29, Try.ntmps29
  go_wp2_with fail
  refine HAF.out.mono ?_
  rintro e w1 ⟨b, rfl, hb1, hd1, ho1⟩
  have HO1 := Lib.hid ho1
  have HD1 := Lib.hid hd1
  have HNM := Lib.hid (names_ok hd1 HA.out.2.2 (by have := HA.out.2.1; omega))
  clear HAF hb1 hd1 ho1
  go_wp2_with fail
  refine HNM.out.mono ?_
  rintro e w2 ⟨nv, rfl, hs2, ho2, hw2⟩
  obtain ⟨na, nc, hnv, _, _⟩ := hs2.shape
  subst hnv
  have HS2 := Lib.hid hs2
  have HO2 := Lib.hid (HO1.out.trans ho2)
  have HD2 := Lib.hid (HD1.out.only ho2 (by simp))
  obtain ⟨M, hM⟩ : ∃ M, A.length = M := ⟨_, rfl⟩
  have HM := Lib.hid hM
  have HML := Lib.hid (show M ≤ 256 from hM ▸ HA.out.2.1)
  rw [hM] at HS2 ⊢
  clear HNM hs2 ho2 hw2 HD1 HO1 hM
  go_wp2
  go_loopw [5, 17] (fun z5 z17 wr => ∃ k : Nat, z17 = .int .i64 k ∧ Hid (k ≤ M) ∧ Hid (Sl wr 77 2 z5 k (tcs fs (A.take k))) ∧ Hid (Only [] w2 wr) ∧ Hid (∀ g, z5.ownBlock = some g → w2.heap.size ≤ g)) (fun _ z17 _ => M - (intOf z17).toNat)
  case atStart => exact ⟨0, rfl, Lib.hid (Nat.zero_le _), Lib.hid (Sl.nil _ _ _), Lib.hid (Only.refl _ _), Lib.hid (fun g hg => by cases hg)⟩
  case round =>
    obtain ⟨k, rfl, HK, HS, HO, HW⟩ := hrel
    by_cases hkl : k < M
    case neg =>
      have hkz : ¬ (k : Int) < (M : Int) := nlt_z hkl
      have HE := Lib.hid (Nat.le_antisymm HK.out (Nat.le_of_not_lt hkl))
      clear hkl
      go_wp2
      refine bodyPost_ret (results_tmp rfl _ _ _) rfl ⟨_, rfl, ?_, HO2.out.trans HO.out, ?_⟩
      case refine_2 => exact fun g hg => Nat.le_trans HO2.out.size (HW.out g hg)
      have h1 := HS.out
      rw [HE.out, ← HM.out, List.take_length] at h1
      rw [← HM.out]
      exact h1
    have hkz : (k : Int) < (M : Int) := lt_z hkl
    have hka : k < A.length := by rw [HM.out]; exact hkl
    have HSN := Lib.hid (HS2.out.only HO.out (by simp))
    obtain ⟨g, o, c', hv, hfm⟩ := HSN.out.form (by omega)
    injection hv with hva hvl hvc
    subst hva
    subst hvc
    clear hvl hfm
    have y0 := HSN.out.cells_ k (sk (A[k]).1) (by simp [hka])
    rw [Addr.add_lit] at y0
    have hm := List.getElem_mem hka
    have hget : A.get (A[k]).1 = some (A[k]).2 := Dir.get_some HA.out.1.nod (by exact hm)
    have HID2 := Lib.hid (HID.out _ hm)
    have HTC := Lib.hid (tcs_snoc fs A k hka)
    obtain ⟨⟨s, f⟩, hx⟩ : ∃ x, A[k] = x := ⟨_, rfl⟩
    rw [hx] at y0 hget HID2 HTC
    dsimp only at y0 hget HID2 HTC
    have HDW := Lib.hid (HD2.out.only HO.out (by simp))
    have hl := DMap.lookup (P := Try.prog) HDW.out Try.underlying56 Try.underlying9 zero79 s
    rw [hget] at hl
    unfold optP at hl
    have HTA := Lib.hid (tail_ok (FM.only0 (H.out.fs.file f HID2.out) (HO2.out.trans HO.out)))
    have e8 := wrap_sm (by have := HML.out; omega) hkl
    have HMS := Lib.hid (meas hkl)
    have HKL := Lib.hid hkl
    clear hkl hka hm hget hx
    go_wp2_with fail
    refine HTA.out.mono ?_
    rintro e w3 ⟨tv, rfl, hs3, ho3⟩
    obtain ⟨ta, tc, htv, _, _⟩ := hs3.shape
    subst htv
    have HO3 := Lib.hid (HO.out.trans ho3)
    have HS3 := Lib.hid (HS.out.only ho3 (by simp))
    obtain ⟨za, zc, hzv, _, _⟩ := HS.out.shape
    subst hzv
    clear hs3 ho3 HTA HS HO HSN HDW hl y0
    go_wp2_with (at_builtin; refine wpList_append_sls rfl (.tmp 21) (.tmp 29) 71 rfl 77 j5 _ 2 24 Try.underlying71 si sz0 sz1 sz2 rfl (by decide) rfl (HS3.out.alloc _) rfl (sl_new (n := 1) (Blk.new _ _ _) (by simp) (by decide)) (by simp [Value.oneCell']) (by have := HKL.out; have := HML.out; unfold maxLen; omega) (by have := HKL.out; have := HML.out; omega) ?_)
    intro v4 w4 hS4 hg4 hat4
    have HS4 := Lib.hid (show Sl w4 77 2 v4 (k + 1) (tcs fs (A.take (k + 1))) by rw [HTC.out]; simpa using hS4)
    have HO4 := Lib.hid (Only.grown (HO3.out.alloc _) hg4 fun i hi => .inr (HW.out i (by simpa using hi)))
    have HW4 := Lib.hid (show ∀ g, v4.ownBlock = some g → w2.heap.size ≤ g from fun g hg => by
      rcases hat4 with e | e
      · rw [e] at hg; exact HW.out g hg
      · rw [e] at hg
        injection hg with hg
        have := HO3.out.size
        first | omega | (simp at hg; omega))
    obtain ⟨ua, uc, huv, _, _⟩ := hS4.shape
    subst huv
    clear hS4 hg4 hat4 HS3 HO3 HW
    go_wp2
    go_roundw
    case measure => (try rw [e8]); exact HMS.out
    case rel => exact ⟨k + 1, by first | rfl | rw [e8], Lib.hid HKL.out, HS4, HO4, HW4⟩
end
end Go.Proofs.Ythekilgolelomaa
