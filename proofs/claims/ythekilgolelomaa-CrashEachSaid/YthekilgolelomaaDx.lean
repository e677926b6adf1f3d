/-
  The disk: List, Rename.
-/
import Derived.Test.YthekilgolelomaaDw
set_option linter.unusedSimpArgs false
set_option linter.unusedVariables false
namespace Go.Proofs.Ythekilgolelomaa
open Go.RowKit Go.Fl

section
variable {w w' : World} {F G : Nat → Prop} {d : Nat} {p p' : PD} {fs : Nat → FD} {ids : Nat → Prop} {nb lb : Nat} {pv fv pv' fv' : Value} {bv lv : Nat → Value}
/-- The names that are. -/
def PD.list (p : PD) : List Nm × Int := if p.up = true then (p.now.map (·.1), 0) else ([], 22)
set_option maxRecDepth 100000 in
theorem list_ok (h0 : DK w F d p fs ids) : Calls Try.prog 20 #[cp d] w fun e w' =>
    ∃ v, e = .returned (.tuple #[v, iv p.list.2]) ∧ Sl w' 9 1 v p.list.1.length (p.list.1.map sk) ∧ Only [] w w' ∧ ∀ g, v.ownBlock = some g → w.heap.size ≤ g := by
  obtain ⟨⟨nb, lb, pv, fv, bv, lv, h⟩, hF⟩ := h0
  have HON := Lib.hid (on_ok h.dm)
  have HNM := Lib.hid (names_ok h.dm.now h.ok.names (by have := h.ok.len.1; omega))
  have x3 := h.dm.blk.cell 3
  have xl := h.dm.blk.lt
  simp [dcells] at x3
  unfold PD.list
  clear h hF
  cases hu : p.up with
  | false =>
    rw [hu] at HON
    simp only [Bool.false_eq_true, if_false]
    clear HNM x3 xl
    go_enter Try.func20, Try.ntmps20
    go_wp2_with fail
    refine HON.out.mono ?_
    rintro e w1 ⟨rfl, rfl⟩
    go_wp2
    exact bodyPost_ret (results2 rfl (res_tmp rfl) (res_tmp rfl)) rfl ⟨_, rfl, Sl.nil _ _ _, Only.refl _ _, fun g hg => by cases hg⟩
  | true =>
    rw [hu] at HON
    simp only [if_true]
    go_enter Try.func20, Try.ntmps20
    go_wp2_with fail
    refine HON.out.mono ?_
    rintro e w1 ⟨rfl, rfl⟩
    go_wp2_with fail
    refine HNM.out.mono ?_
    rintro e w2 ⟨v, rfl, hs, ho, hw⟩
    have HS := Lib.hid hs
    have HO := Lib.hid ho
    have HW := Lib.hid hw
    clear hs ho hw HNM
    go_wp2
    refine bodyPost_ret (results2 rfl (res_tmp rfl) (res_tmp rfl)) rfl ⟨_, rfl, ?_, HO.out, HW.out⟩
    rw [List.length_map, List.map_map]
    exact HS.out
/-! ### Rename -/
def PD.rename (p : PD) (a b : Nm) : Int × PD :=
  if (findR p a).2 = 6 ∧ mayB b = false then (24, p)
  else if (findR p a).2 ≠ 0 then ((findR p a).2, p)
  else if mayB b = false then (24, p)
  else if a = b then (if (p.op .rn).flt.2.1 = 0 ∨ (p.op .rn).flt.2.1 = 2 then (0, p.op .rn) else (befR (p.op .rn).flt, (p.op .rn).bef (p.op .rn).flt))
  else (p.op .rn).chg0 (p.op .rn).flt (.rn a b)
theorem rn_len {d : Dir} {a b : Nm} {f : Nat} (h : d.get a = some f) : ((d.del a).put b f).length ≤ d.length := by
  have h1 := put_len (d.del a) b f
  have h2 : (d.del a).length < d.length := by
    refine Nat.lt_of_le_of_ne (List.length_filter_le _ _) fun e => ?_
    have h3 := List.length_filter_eq_length_iff.1 e (a, f) (Dir.get_mem h)
    simp at h3
  omega
theorem Live.rn (h : Live p ids) {a b : Nm} {f : Nat} (hf : p.now.get a = some f) : Live (p.chg (.rn a b)) ids := by
  have e : (p.chg (.rn a b)).now = (p.now.del a).put b f := by
    show (match p.now.get a with | some f => (p.now.del a).put b f | none => p.now) = _
    rw [hf]
  refine ⟨fun x hx => ?_, h.last, fun c hc i hi => ?_⟩
  · rw [e] at hx
    rcases Dir.mem_put.1 hx with rfl | hx
    · exact h.now (a, f) (Dir.get_mem hf)
    · exact h.now x (Dir.mem_del.1 hx.1).1
  · rcases List.mem_append.1 hc with hc | hc
    · exact h.pend c hc i hi
    · rw [List.mem_singleton.1 hc] at hi
      cases hi
theorem PD.Ok.rn (h : p.Ok) {a b : Nm} {f : Nat} (hf : p.now.get a = some f) (hb : mayB b = true) : (p.chg (.rn a b)).Ok := by
  have e : (Chg.rn a b).do_ p.now = (p.now.del a).put b f := by
    show (match p.now.get a with | some f => (p.now.del a).put b f | none => p.now) = _
    rw [hf]
  refine h.chg _ (by show (p.now.get a).isSome = true; rw [hf]; rfl) ?_ ?_
  · rw [e]
    exact Nat.le_trans (rn_len hf) h.len.1
  · rw [e]
    intro x hx
    rcases Dir.mem_put.1 hx with rfl | hx
    · exact mayB_len hb
    · exact h.names x (Dir.mem_del.1 hx.1).1
set_option maxRecDepth 100000 in
set_option maxHeartbeats 12800000 in
theorem rename_ok (h0 : DK w F d p fs ids) (hc : p.calm) (hpl : p.pend.length ≤ 1048576) (a b : Nm) : Calls Try.prog 12 #[cp d, sk a, sk b] w fun e w' =>
    e = .returned (iv (p.rename a b).1) ∧ After w F d (p.rename a b).2 fs ids w' := by
  have HS := Lib.hid (After.same h0)
  have HF := Lib.hid h0.2
  have hsome : (findR p a).2 = 0 → ∃ f, p.now.get a = some f := fun e => by
    obtain ⟨f, _, hf, _⟩ := find_dk_some h0 e
    exact ⟨f, hf⟩
  obtain ⟨⟨nb, lb, pv, fv, bv, lv, h⟩, _⟩ := h0
  have HFI := Lib.hid (find_ok h.dm a)
  have HOP := Lib.hid (op_rn h.dm (Nat.le_trans h.ok.flt (by decide)))
  have HMB := Lib.hid (may_ok b w)
  have HC := Lib.hid (hc.op .rn)
  have H := Lib.hid h
  have HPL := Lib.hid hpl
  have xl := h.dm.blk.lt
  clear hpl
  unfold PD.rename
  generalize findR p a = r at HFI hsome ⊢
  obtain ⟨fo, fe⟩ := r
  dsimp only at HFI hsome ⊢
  by_cases e6 : fe = 6
  · subst e6
    clear h hc HOP hsome
    cases hm : mayB b with
    | false =>
      rw [hm] at HMB
      simp only [and_self, if_true]
      go_enter Try.func12, Try.ntmps12
      go_wp2_with fail
      refine HFI.out.mono ?_
      rintro e w1 ⟨rfl, rfl⟩
      clear HFI
      go_wp2_with fail
      refine HMB.out.mono ?_
      rintro e w2 ⟨rfl, rfl⟩
      go_wp2
      exact bodyPost_ret (results_tmp rfl _ _ _) rfl ⟨rfl, HS.out⟩
    | true =>
      rw [hm] at HMB
      simp only [Bool.true_eq_false, and_false, if_false, ne_eq, show ¬ (6 : Int) = 0 by decide, not_false_eq_true, if_true]
      go_enter Try.func12, Try.ntmps12
      go_wp2_with fail
      refine HFI.out.mono ?_
      rintro e w1 ⟨rfl, rfl⟩
      clear HFI
      go_wp2_with fail
      refine HMB.out.mono ?_
      rintro e w2 ⟨rfl, rfl⟩
      go_wp2
      exact bodyPost_ret (results_tmp rfl _ _ _) rfl ⟨rfl, HS.out⟩
  simp only [e6, false_and, if_false]
  have k6 : (fe == 6) = false := by simpa using e6
  by_cases e0 : fe = 0
  case neg =>
    simp only [ne_eq, e0, not_false_eq_true, if_true]
    have k0 : (fe != 0) = true := by simpa using e0
    clear h hc HOP hsome e6 e0
    go_enter Try.func12, Try.ntmps12
    go_wp2_with fail
    refine HFI.out.mono ?_
    rintro e w1 ⟨rfl, rfl⟩
    clear HFI
    go_wp2
    exact bodyPost_ret (results_tmp rfl _ _ _) rfl ⟨rfl, HS.out⟩
  subst e0
  clear e6 k6
  simp only [ne_eq, not_true_eq_false, if_false]
  cases hm : mayB b with
  | false =>
    rw [hm] at HMB
    simp only [if_true]
    clear h hc HOP hsome
    go_enter Try.func12, Try.ntmps12
    go_wp2_with fail
    refine HFI.out.mono ?_
    rintro e w1 ⟨rfl, rfl⟩
    clear HFI
    go_wp2_with fail
    refine HMB.out.mono ?_
    rintro e w2 ⟨rfl, rfl⟩
    go_wp2
    exact bodyPost_ret (results_tmp rfl _ _ _) rfl ⟨rfl, HS.out⟩
  | true =>
    rw [hm] at HMB
    simp only [Bool.true_eq_false, if_false]
    obtain ⟨f, hf⟩ := hsome rfl
    have HLB := Lib.hid ((h.live.op .rn).bef (p.op .rn).flt)
    have HKB := Lib.hid ((h.ok.op .rn).bef (p.op .rn).flt)
    have HL0 := Lib.hid (h.live.op .rn)
    have HK0 := Lib.hid (h.ok.op .rn)
    have HL1 := Lib.hid (Live.rn (b := b) (h.live.op .rn) (show (p.op .rn).now.get a = some f from hf))
    have HK1 := Lib.hid (PD.Ok.rn (b := b) (h.ok.op .rn) (show (p.op .rn).now.get a = some f from hf) hm)
    have HFG := Lib.hid (show (p.op .rn).now.get a = some f from hf)
    clear h hc hsome hf hm
    unfold PD.chg0
    generalize (p.op .rn).flt = x at HOP HC HLB HKB ⊢
    obtain ⟨xa, xk, xp⟩ := x
    unfold fltV at HOP
    dsimp only at HOP HC HLB HKB ⊢
    by_cases hab : a = b
    · simp only [hab, if_true]
      subst hab
      have hbe : (a == a) = true := by simp
      by_cases hx : xk = 0 ∨ xk = 2
      · simp only [hx, if_true]
        go_enter Try.func12, Try.ntmps12
        go_wp2_with fail
        refine HFI.out.mono ?_
        rintro e w1 ⟨rfl, rfl⟩
        clear HFI
        go_wp2_with fail
        refine HMB.out.mono ?_
        rintro e w2 ⟨rfl, rfl⟩
        clear HMB
        go_wp2_with fail
        refine HOP.out.mono ?_
        rintro e w2 ⟨rfl, hd, ho⟩
        have HD := Lib.hid hd
        have HO := Lib.hid ho
        clear HOP hd ho xl
        go_wp2_with (refine wpList_store_blk (g := w2.heap.size) (k := 0) rfl 83 (.tmp 9) (.tmp 37) rfl [iv xa, iv xk, iv xp] rfl rfl (Blk.new w2 83 #[iv 0, iv 0, iv 0]) (by kernel_rfl) (by simp) (by simp [Value.oneCell']) ?_)
        intro w3 hB hO
        have HB3 := Lib.hid (show Blk w3 w2.heap.size 83 #[iv xa, iv xk, iv xp] by simpa using hB)
        have HO3 := Lib.hid (only_new hO)
        have HD3 := Lib.hid (HD.out.only0 HO3.out)
        clear hB hO
        have z0 := HB3.out.cell 0
        have z1 := HB3.out.cell 1
        have z2 := HB3.out.cell 2
        have zl := HB3.out.lt
        simp at z0 z1 z2
        have HX := Lib.hid (change_nil HD3.out (xa, xk, xp) hx)
        have HL := HL0
        have HK := HK0
        unfold fltV at HX
        dsimp only at HX
        clear hx
        go_wp2_with fail
        refine HX.out.mono ?_
        rintro e w4 ⟨rfl, hd4, ho4⟩
        have HE := Lib.hid (After.kept H.out HF.out (hd4.mono fun k hk => (.inl hk : grow F _ w4 k)) (((HO.out.mono fun k hk => by rw [List.mem_singleton.1 hk]; exact own_d _ _ _ _ _).trans (HO3.out.mono (by simp))).trans (ho4.mono fun k hk => by first | (simp at hk; done) | (simp at hk; subst hk; exact own_d _ _ _ _ _))) HL.out HK.out)
        clear hd4 ho4 HX z0 z1 z2 zl
        go_wp2
        exact bodyPost_ret (results_tmp rfl _ _ _) rfl ⟨rfl, HE.out⟩
      · simp only [hx, if_false]
        go_enter Try.func12, Try.ntmps12
        go_wp2_with fail
        refine HFI.out.mono ?_
        rintro e w1 ⟨rfl, rfl⟩
        clear HFI
        go_wp2_with fail
        refine HMB.out.mono ?_
        rintro e w2 ⟨rfl, rfl⟩
        clear HMB
        go_wp2_with fail
        refine HOP.out.mono ?_
        rintro e w2 ⟨rfl, hd, ho⟩
        have HD := Lib.hid hd
        have HO := Lib.hid ho
        clear HOP hd ho xl
        go_wp2_with (refine wpList_store_blk (g := w2.heap.size) (k := 0) rfl 83 (.tmp 9) (.tmp 37) rfl [iv xa, iv xk, iv xp] rfl rfl (Blk.new w2 83 #[iv 0, iv 0, iv 0]) (by kernel_rfl) (by simp) (by simp [Value.oneCell']) ?_)
        intro w3 hB hO
        have HB3 := Lib.hid (show Blk w3 w2.heap.size 83 #[iv xa, iv xk, iv xp] by simpa using hB)
        have HO3 := Lib.hid (only_new hO)
        have HD3 := Lib.hid (HD.out.only0 HO3.out)
        clear hB hO
        have z0 := HB3.out.cell 0
        have z1 := HB3.out.cell 1
        have z2 := HB3.out.cell 2
        have zl := HB3.out.lt
        simp at z0 z1 z2
        have HX := Lib.hid (change_bad HD3.out (xa, xk, xp) false .nilIface (fun e => hx (.inl e)) (.inl fun e => hx (.inr e)) HC.out)
        have HL := HLB
        have HK := HKB
        unfold fltV at HX
        dsimp only at HX
        clear hx
        go_wp2_with fail
        refine HX.out.mono ?_
        rintro e w4 ⟨rfl, hd4, ho4⟩
        have HE := Lib.hid (After.kept H.out HF.out (hd4.mono fun k hk => (.inl hk : grow F _ w4 k)) (((HO.out.mono fun k hk => by rw [List.mem_singleton.1 hk]; exact own_d _ _ _ _ _).trans (HO3.out.mono (by simp))).trans (ho4.mono fun k hk => by first | (simp at hk; done) | (simp at hk; subst hk; exact own_d _ _ _ _ _))) HL.out HK.out)
        clear hd4 ho4 HX z0 z1 z2 zl
        go_wp2
        exact bodyPost_ret (results_tmp rfl _ _ _) rfl ⟨rfl, HE.out⟩
    · simp only [hab, if_false]
      have hbe : (a == b) = false := by simpa using hab
      clear hab
      by_cases hx : xk = 0 ∨ xk = 2
      · simp only [hx, if_true]
        go_enter Try.func12, Try.ntmps12
        go_wp2_with fail
        refine HFI.out.mono ?_
        rintro e w1 ⟨rfl, rfl⟩
        clear HFI
        go_wp2_with fail
        refine HMB.out.mono ?_
        rintro e w2 ⟨rfl, rfl⟩
        clear HMB
        go_wp2_with fail
        refine HOP.out.mono ?_
        rintro e w2 ⟨rfl, hd, ho⟩
        have HD := Lib.hid hd
        have HO := Lib.hid ho
        clear HOP hd ho xl
        go_wp2_with (refine wpList_store_blk (g := w2.heap.size) (k := 0) rfl 83 (.tmp 9) (.tmp 37) rfl [iv xa, iv xk, iv xp] rfl rfl (Blk.new w2 83 #[iv 0, iv 0, iv 0]) (by kernel_rfl) (by simp) (by simp [Value.oneCell']) ?_)
        intro w3 hB hO
        have HB3 := Lib.hid (show Blk w3 w2.heap.size 83 #[iv xa, iv xk, iv xp] by simpa using hB)
        have HO3 := Lib.hid (only_new hO)
        have HD3 := Lib.hid (HD.out.only0 HO3.out)
        clear hB hO
        have z0 := HB3.out.cell 0
        have z1 := HB3.out.cell 1
        have z2 := HB3.out.cell 2
        have zl := HB3.out.lt
        simp at z0 z1 z2
        have HX := Lib.hid (change_ok HD3.out (xa, xk, xp) false (.rn a b) (hx.imp (fun e => e) fun e => ⟨e, rfl⟩) (by show ((p.op .rn).now.get a).isSome = true; rw [HFG.out]; rfl) HPL.out)
        have HL := HL1
        have HK := HK1
        unfold fltV chgV at HX
        dsimp only at HX
        clear hx
        go_wp2_with fail
        refine HX.out.mono ?_
        rintro e w4 ⟨rfl, pv', hd4, ho4⟩
        have HE := Lib.hid (After.kept H.out HF.out (hd4.mono (grow_mono (fun k hk => .inl hk) ho4.size (Nat.le_trans HO.out.size HO3.out.size))) (((HO.out.mono fun k hk => by rw [List.mem_singleton.1 hk]; exact own_d _ _ _ _ _).trans (HO3.out.mono (by simp))).trans ho4) HL.out HK.out)
        clear hd4 ho4 HX z0 z1 z2 zl
        go_wp2
        exact bodyPost_ret (results_tmp rfl _ _ _) rfl ⟨rfl, HE.out⟩
      · simp only [hx, if_false]
        go_enter Try.func12, Try.ntmps12
        go_wp2_with fail
        refine HFI.out.mono ?_
        rintro e w1 ⟨rfl, rfl⟩
        clear HFI
        go_wp2_with fail
        refine HMB.out.mono ?_
        rintro e w2 ⟨rfl, rfl⟩
        clear HMB
        go_wp2_with fail
        refine HOP.out.mono ?_
        rintro e w2 ⟨rfl, hd, ho⟩
        have HD := Lib.hid hd
        have HO := Lib.hid ho
        clear HOP hd ho xl
        go_wp2_with (refine wpList_store_blk (g := w2.heap.size) (k := 0) rfl 83 (.tmp 9) (.tmp 37) rfl [iv xa, iv xk, iv xp] rfl rfl (Blk.new w2 83 #[iv 0, iv 0, iv 0]) (by kernel_rfl) (by simp) (by simp [Value.oneCell']) ?_)
        intro w3 hB hO
        have HB3 := Lib.hid (show Blk w3 w2.heap.size 83 #[iv xa, iv xk, iv xp] by simpa using hB)
        have HO3 := Lib.hid (only_new hO)
        have HD3 := Lib.hid (HD.out.only0 HO3.out)
        clear hB hO
        have z0 := HB3.out.cell 0
        have z1 := HB3.out.cell 1
        have z2 := HB3.out.cell 2
        have zl := HB3.out.lt
        simp at z0 z1 z2
        have HX := Lib.hid (change_bad HD3.out (xa, xk, xp) false (chgV (.rn a b)) (fun e => hx (.inl e)) (.inl fun e => hx (.inr e)) HC.out)
        have HL := HLB
        have HK := HKB
        unfold fltV chgV at HX
        dsimp only at HX
        clear hx
        go_wp2_with fail
        refine HX.out.mono ?_
        rintro e w4 ⟨rfl, hd4, ho4⟩
        have HE := Lib.hid (After.kept H.out HF.out (hd4.mono fun k hk => (.inl hk : grow F _ w4 k)) (((HO.out.mono fun k hk => by rw [List.mem_singleton.1 hk]; exact own_d _ _ _ _ _).trans (HO3.out.mono (by simp))).trans (ho4.mono fun k hk => by first | (simp at hk; done) | (simp at hk; subst hk; exact own_d _ _ _ _ _))) HL.out HK.out)
        clear hd4 ho4 HX z0 z1 z2 zl
        go_wp2
        exact bodyPost_ret (results_tmp rfl _ _ _) rfl ⟨rfl, HE.out⟩
end
end Go.Proofs.Ythekilgolelomaa
