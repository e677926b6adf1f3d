/-
  The disk: New, Remove, Size, Up.
-/
import Derived.Test.YthekilgolelomaaDi
set_option linter.unusedSimpArgs false
set_option linter.unusedVariables false
namespace Go.Proofs.Ythekilgolelomaa
open Go.RowKit Go.Fl

/-- A new disk. -/
def PD.new (most : Int) : PD := ⟨true, most, [], [], [], Cnt.zero, [], 0⟩
theorem new_no (w : World) (most : Int) (h : most < 0 ∨ 16777216 < most) : Calls Try.prog 7 #[iv most] w fun e w' => e = .returned (.pointer none) ∧ Only [] w w' := by
  rcases h with h | h
  · go_enter Try.func7, Try.ntmps7
    go_wp2
    exact bodyPost_ret (results_tmp rfl _ _ _) rfl ⟨rfl, Only.refl _ _⟩
  · have h0 : ¬ most < 0 := by omega
    go_enter Try.func7, Try.ntmps7
    go_wp2
    exact bodyPost_ret (results_tmp rfl _ _ _) rfl ⟨rfl, Only.refl _ _⟩
theorem new_fact (w : World) (most : Int) (h : 0 ≤ most) (h2 : most ≤ 16777216) :
    After w (fun _ => False) (w.heap.size + 2) (PD.new most) (fun _ => ⟨[], [], 0⟩) (fun _ => False)
      (((w.alloc (.map #[] 0)).alloc (.map #[] 0)).alloc (.cells (dcells (PD.new most) w.heap.size (w.heap.size + 1) (.slice none 0 0) (.slice none 0 0)) 59)) := by
  have ho : Only [] w (((w.alloc (.map #[] 0)).alloc (.map #[] 0)).alloc (.cells (dcells (PD.new most) w.heap.size (w.heap.size + 1) (.slice none 0 0) (.slice none 0 0)) 59)) := (((Only.refl _ _).alloc _).alloc _).alloc _
  have hb := Blk.new ((w.alloc (.map #[] 0)).alloc (.map #[] 0)) 59 (dcells (PD.new most) w.heap.size (w.heap.size + 1) (.slice none 0 0) (.slice none 0 0))
  have hm2 := (DMap.new (w.alloc (.map #[] 0))).only ((Only.refl [] _).alloc (.cells (dcells (PD.new most) w.heap.size (w.heap.size + 1) (.slice none 0 0) (.slice none 0 0)) 59)) (by simp)
  have hm1 := (DMap.new w).only (((Only.refl [] _).alloc (.map #[] 0)).alloc (.cells (dcells (PD.new most) w.heap.size (w.heap.size + 1) (.slice none 0 0) (.slice none 0 0)) 59)) (by simp)
  simp only [World.size_alloc] at hb hm2
  refine ⟨⟨⟨w.heap.size, w.heap.size + 1, .slice none 0 0, .slice none 0 0, fun _ => .slice none 0 0, fun _ => .slice none 0 0, ⟨hb, hm1, hm2, by omega, Sl.nil _ _ _, Sl.nil _ _ _, .inr ?_, .inr ?_, .inr ?_, by simp [Value.ownBlock], by simp [Value.ownBlock]⟩, ⟨?_, ?_, ?_, ?_, ?_, ?_, ?_⟩, ⟨?_, ?_, ?_⟩, ⟨List.Pairwise.nil, List.Pairwise.nil, rfl, trivial, by simp [PD.new], by simp [PD.new], ⟨h, h2⟩, fun n => by simp [PD.new, doAll]⟩⟩, ?_⟩, Turn.of ho (by simp)⟩
  all_goals first | (intro i hi; exact hi.elim) | (intro i j g hi; exact hi.elim) | (simp [PD.new]; done) | (simp; omega) | exact fun k hk => grow_lt (fun _ h => h.elim) ho.size k hk
set_option maxRecDepth 100000 in
theorem new_ok (w : World) (most : Int) (h : 0 ≤ most) (h2 : most ≤ 16777216) : Calls Try.prog 7 #[iv most] w fun e w' => e = .returned (cp (w.heap.size + 2)) ∧ After w (fun _ => False) (w.heap.size + 2) (PD.new most) (fun _ => ⟨[], [], 0⟩) (fun _ => False) w' := by
  have HN := Lib.hid (new_fact w most h h2)
  have h0 : ¬ most < 0 := by omega
  have h3 : ¬ 16777216 < most := by omega
  have hmk : ∀ w, (Instr.makeMap 56 none).run Try.prog w = .ok (.map (some w.heap.size)) (w.alloc (.map #[] 0)) := fun _ => rfl
  go_enter Try.func7, Try.ntmps7
  go_wp2
  exact bodyPost_ret (results_tmp rfl _ _ _) rfl ⟨rfl, HN.out⟩
section
variable {w w' : World} {F G : Nat → Prop} {d : Nat} {p p' : PD} {fs : Nat → FD} {ids : Nat → Prop} {nb lb : Nat} {pv fv pv' fv' : Value} {bv lv : Nat → Value}
set_option maxRecDepth 100000 in
theorem up_ok (h0 : DK w F d p fs ids) : Calls Try.prog 24 #[cp d] w fun e w' => e = .returned (.bool p.up) ∧ w' = w := by
  obtain ⟨⟨nb, lb, pv, fv, bv, lv, h⟩, _⟩ := h0
  have HO := Lib.hid (on_ok h.dm)
  clear h
  go_enter Try.func24, Try.ntmps24
  go_wp2_with fail
  refine HO.out.mono ?_
  rintro e w1 ⟨rfl, rfl⟩
  go_wp2
  exact bodyPost_ret (results_tmp rfl _ _ _) rfl ⟨rfl, rfl⟩
theorem find_some (h : Dk w F d p fs ids nb lb pv fv bv lv) {s : Nm} (he : (findR p s).2 = 0) : ∃ f, findR p s = (some f, 0) ∧ p.now.get s = some f ∧ ids f := by
  unfold findR at he ⊢
  by_cases hu : p.up = true
  · rw [if_pos hu] at he ⊢
    by_cases hm : mayB s = true
    · rw [if_pos hm] at he ⊢
      cases hg : p.now.get s with
      | none => rw [hg] at he; cases he
      | some f => exact ⟨f, rfl, rfl, h.live.now _ (Dir.get_mem hg)⟩
    · rw [if_neg hm] at he; cases he
  · rw [if_neg hu] at he; cases he
theorem find_none {s : Nm} (he : (findR p s).2 ≠ 0) : (findR p s).1 = none := by
  unfold findR at he ⊢
  by_cases hu : p.up = true
  · rw [if_pos hu] at he ⊢
    by_cases hm : mayB s = true
    · rw [if_pos hm] at he ⊢
      cases hg : p.now.get s with
      | none => rfl
      | some f => rw [hg] at he; exact absurd rfl he
    · rw [if_neg hm]
  · rw [if_neg hu]
/-- How many bytes a file has. -/
def PD.size (p : PD) (fs : Nat → FD) (s : Nm) : Int × Int := match findR p s with
  | (some f, _) => ((fs f).b.length, 0)
  | (none, e) => (0, e)
set_option maxRecDepth 100000 in
theorem size_ok (h0 : DK w F d p fs ids) (s : Nm) : Calls Try.prog 19 #[cp d, sk s] w fun e w' => e = .returned (.tuple #[iv (p.size fs s).1, iv (p.size fs s).2]) ∧ w' = w := by
  obtain ⟨⟨nb, lb, pv, fv, bv, lv, h⟩, _⟩ := h0
  have HFI := Lib.hid (find_ok h.dm s)
  unfold PD.size
  by_cases e0 : (findR p s).2 = 0
  · obtain ⟨f, hf, _, hi⟩ := find_some h e0
    rw [hf] at HFI ⊢
    dsimp only [optP] at HFI ⊢
    have hb := (h.fs.file f hi).blk
    have x0 := hb.cell 0
    have xl := hb.lt
    obtain ⟨ba, bc, hbv, _, _⟩ := (h.fs.file f hi).b.shape
    simp at x0
    rw [hbv] at x0
    clear h e0 hf hi hb hbv
    go_enter Try.func19, Try.ntmps19
    go_wp2_with fail
    refine HFI.out.mono ?_
    rintro e w1 ⟨rfl, rfl⟩
    go_wp2
    exact bodyPost_ret (results2 rfl (res_tmp rfl) (res_tmp rfl)) rfl ⟨rfl, rfl⟩
  · have hn := find_none e0
    generalize findR p s = r at HFI e0 hn ⊢
    obtain ⟨fo, fe⟩ := r
    dsimp only at hn e0
    subst hn
    dsimp only [optP] at HFI ⊢
    have k0 : (fe != 0) = true := by simpa using e0
    clear h e0
    go_enter Try.func19, Try.ntmps19
    go_wp2_with fail
    refine HFI.out.mono ?_
    rintro e w1 ⟨rfl, rfl⟩
    go_wp2
    exact bodyPost_ret (results2 rfl (res_tmp rfl) (res_tmp rfl)) rfl ⟨rfl, rfl⟩
/-- A change that is answered in full when there is no room. -/
def PD.chg0 (q : PD) (x : Flt) (c : Chg) : Int × PD := if x.2.1 = 0 ∨ x.2.1 = 2 then (0, q.chg c) else (befR x, q.bef x)
def PD.remove (p : PD) (s : Nm) : Int × PD := if (findR p s).2 = 0 then (p.op .rm).chg0 (p.op .rm).flt (.rm s) else ((findR p s).2, p)
theorem Live.rm (h : Live p ids) (s : Nm) : Live (p.chg (.rm s)) ids :=
  ⟨fun x hx => h.now x (Dir.mem_del.1 hx).1, h.last, fun c hc i hi => by
    rcases List.mem_append.1 hc with hc | hc
    · exact h.pend c hc i hi
    · rw [List.mem_singleton.1 hc] at hi
      cases hi⟩
theorem del_len (d : Dir) (s : Nm) : (d.del s).length ≤ d.length := List.length_filter_le _ _
set_option maxRecDepth 100000 in
set_option maxHeartbeats 1600000 in
theorem remove_ok (h0 : DK w F d p fs ids) (hc : p.calm) (hpl : p.pend.length ≤ 1048576) (s : Nm) : Calls Try.prog 13 #[cp d, sk s] w fun e w' =>
    e = .returned (iv (p.remove s).1) ∧ After w F d (p.remove s).2 fs ids w' := by
  have HS := Lib.hid (After.same h0)
  have HF := Lib.hid h0.2
  obtain ⟨⟨nb, lb, pv, fv, bv, lv, h⟩, _⟩ := h0
  have HFI := Lib.hid (find_ok h.dm s)
  have HOP := Lib.hid (op_rm h.dm (Nat.le_trans h.ok.flt (by decide)))
  have HC := Lib.hid (hc.op .rm)
  have H := Lib.hid h
  have HPL := Lib.hid hpl
  have xl := h.dm.blk.lt
  clear hpl
  unfold PD.remove
  generalize findR p s = r at HFI ⊢
  obtain ⟨fo, fe⟩ := r
  dsimp only at HFI ⊢
  by_cases e0 : fe = 0
  case neg =>
    simp only [e0, if_false]
    have k0 : (fe != 0) = true := by simpa using e0
    clear h hc HOP e0
    go_enter Try.func13, Try.ntmps13
    go_wp2_with fail
    refine HFI.out.mono ?_
    rintro e w1 ⟨rfl, rfl⟩
    clear HFI
    go_wp2
    exact bodyPost_ret (results_tmp rfl _ _ _) rfl ⟨rfl, HS.out⟩
  subst e0
  simp only [if_true]
  unfold PD.chg0
  by_cases hx : (p.op .rm).flt.2.1 = 0 ∨ (p.op .rm).flt.2.1 = 2
  · simp only [hx, if_true]
    have HX0 := Lib.hid hx
    have HL := Lib.hid ((h.live.op .rm).rm s)
    have HK := Lib.hid ((h.ok.op .rm).chg (.rm s) trivial (Nat.le_trans (del_len p.now s) h.ok.len.1) fun x hx => h.ok.names x (Dir.mem_del.1 hx).1)
    clear hx h hc
    generalize (p.op .rm).flt = x at HX0 HOP ⊢
    go_enter Try.func13, Try.ntmps13
    go_wp2_with fail
    refine HFI.out.mono ?_
    rintro e w1 ⟨rfl, rfl⟩
    clear HFI
    go_wp2_with fail
    refine HOP.out.mono ?_
    rintro e w2 ⟨rfl, hd, ho⟩
    have HD := Lib.hid hd
    have HO := Lib.hid ho
    clear HOP hd ho
    have HX := Lib.hid (change_ok HD.out x false (.rm s) (HX0.out.imp (fun e => e) fun e => ⟨e, rfl⟩) trivial HPL.out)
    unfold fltV chgV at HX
    unfold fltV
    go_wp2_with fail
    refine HX.out.mono ?_
    rintro e w3 ⟨rfl, pv', hd3, ho3⟩
    have HE := Lib.hid (After.kept H.out HF.out (hd3.mono (grow_mono (fun k hk => .inl hk) ho3.size HO.out.size)) ((HO.out.mono fun k hk => by rw [List.mem_singleton.1 hk]; exact own_d _ _ _ _ _).trans ho3) HL.out HK.out)
    clear hd3 ho3 HX
    go_wp2
    exact bodyPost_ret (results_tmp rfl _ _ _) rfl ⟨rfl, HE.out⟩
  · simp only [hx, if_false]
    have HX0 := Lib.hid hx
    have HL := Lib.hid ((h.live.op .rm).bef (p.op .rm).flt)
    have HK := Lib.hid ((h.ok.op .rm).bef (p.op .rm).flt)
    clear hx h hc
    generalize (p.op .rm).flt = x at HX0 HOP HL HK HC ⊢
    go_enter Try.func13, Try.ntmps13
    go_wp2_with fail
    refine HFI.out.mono ?_
    rintro e w1 ⟨rfl, rfl⟩
    clear HFI
    go_wp2_with fail
    refine HOP.out.mono ?_
    rintro e w2 ⟨rfl, hd, ho⟩
    have HD := Lib.hid hd
    have HO := Lib.hid ho
    clear HOP hd ho
    have HX := Lib.hid (change_bad HD.out x false (chgV (.rm s)) (fun e => HX0.out (.inl e)) (.inl fun e => HX0.out (.inr e)) HC.out)
    unfold fltV chgV at HX
    unfold fltV
    go_wp2_with fail
    refine HX.out.mono ?_
    rintro e w3 ⟨rfl, hd3, ho3⟩
    have HE := Lib.hid (After.kept H.out HF.out (hd3.mono fun k hk => (.inl hk : grow F w1 w3 k)) ((HO.out.trans ho3).mono fun k hk => by rw [List.mem_singleton.1 hk]; exact own_d _ _ _ _ _) HL.out HK.out)
    clear hd3 ho3 HX
    go_wp2
    exact bodyPost_ret (results_tmp rfl _ _ _) rfl ⟨rfl, HE.out⟩
end
end Go.Proofs.Ythekilgolelomaa
