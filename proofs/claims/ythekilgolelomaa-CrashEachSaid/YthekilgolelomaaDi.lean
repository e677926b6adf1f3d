/-
  The disk: Create.
-/
import Derived.Test.YthekilgolelomaaDh
set_option linter.unusedSimpArgs false
set_option linter.unusedVariables false
namespace Go.Proofs.Ythekilgolelomaa
open Go.RowKit Go.Fl

theorem mayB_len {s : Nm} (h : mayB s = true) : s.length ≤ 64 := by
  unfold mayB at h
  simp only [Bool.and_eq_true, decide_eq_true_eq] at h
  exact h.1.1.1.2
theorem find6 {p : PD} {s : Nm} (h : (findR p s).2 = 6) : s.length ≤ 64 := by
  unfold findR at h
  by_cases hu : p.up = true
  · rw [if_pos hu] at h
    by_cases hm : mayB s = true
    · exact mayB_len hm
    · rw [if_neg hm] at h
      cases h
  · rw [if_neg hu] at h
    cases h
/-- No fault panics. -/
def PD.calm (p : PD) : Prop := ∀ x ∈ p.faults, x.2.1 ≠ 4 ∧ 0 ≤ x.2.2
theorem PD.calm.both {p : PD} (h : p.calm) (k : OpK) : (p.op k).flt.2.1 ≠ 4 ∧ 0 ≤ (p.op k).flt.2.2 := by
  unfold PD.flt
  cases hf : (p.op k).faults.find? (fun x => x.1 == (p.op k).since) with
  | none => simp
  | some x => exact h x (List.mem_of_find?_eq_some hf)
theorem PD.calm.op {p : PD} (h : p.calm) (k : OpK) : (p.op k).flt.2.1 ≠ 4 := (h.both k).1
theorem PD.calm.part {p : PD} (h : p.calm) (k : OpK) : 0 ≤ (p.op k).flt.2.2 := (h.both k).2
theorem PD.Ok.op {p : PD} (h : p.Ok) (k : OpK) : (p.op k).Ok := ⟨h.snow, h.slast, h.go, h.ok, h.len, h.flt, h.most, h.pre⟩
theorem PD.Ok.bef {p : PD} (h : p.Ok) (x : Flt) : (p.bef x).Ok := by
  unfold PD.bef
  split
  · exact ⟨h.snow, h.slast, h.go, h.ok, h.len, h.flt, h.most, h.pre⟩
  · exact h
theorem Live.op {p : PD} {ids : Nat → Prop} (h : Live p ids) (k : OpK) : Live (p.op k) ids := ⟨h.now, h.last, h.pend⟩
theorem Live.bef {p : PD} {ids : Nat → Prop} (h : Live p ids) (x : Flt) : Live (p.bef x) ids := by
  unfold PD.bef
  split
  · exact ⟨h.now, h.last, h.pend⟩
  · exact h
theorem put_len (d : Dir) (s : Nm) (f : Nat) : (d.put s f).length ≤ d.length + 1 := by
  rw [(Dir.put_perm d s f).length_eq]
  simp [Dir.del]
  exact List.length_filter_le _ _
/-- A file is laid. -/
def PD.create (p : PD) (s : Nm) (f : Nat) : Int × PD × Bool :=
  if (findR p s).2 = 0 then (7, p, false)
  else if (findR p s).2 ≠ 6 then ((findR p s).2, p, false)
  else if 256 ≤ p.now.length then (9, p, false)
  else if (p.op .cr).flt.2.1 = 0 then (0, (p.op .cr).chg (.cr s f), true)
  else (befR (p.op .cr).flt, (p.op .cr).bef (p.op .cr).flt, false)
def upd {A : Type} (f : Nat → A) (i : Nat) (x : A) : Nat → A := fun k => if k = i then x else f k
def fsN (fs : Nat → FD) (f : Nat) (b : Bool) : Nat → FD := if b = true then upd fs f ⟨[], [], 0⟩ else fs
def idsN (ids : Nat → Prop) (f : Nat) (b : Bool) : Nat → Prop := if b = true then fun k => k = f ∨ ids k else ids
theorem upd_at {A : Type} (f : Nat → A) (i : Nat) (x : A) : upd f i x i = x := by simp [upd]
theorem upd_ne {A : Type} (f : Nat → A) {i k : Nat} (x : A) (h : k ≠ i) : upd f i x k = f k := by simp [upd, h]
section
variable {w w' : World} {F G : Nat → Prop} {d : Nat} {p p' : PD} {fs : Nat → FD} {ids : Nat → Prop} {nb lb : Nat} {pv fv pv' fv' : Value} {bv lv : Nat → Value}
/-- One more file, an empty one. -/
theorem FS.add (h : FS w F ids fs bv lv) {f : Nat} (hb : Blk w f 87 #[.slice none 0 0, .slice none 0 0, iv 0]) (hn : ¬ ids f) (hG : ∀ k, F k → G k) (hf : G f) :
    FS w G (fun k => k = f ∨ ids k) (upd fs f ⟨[], [], 0⟩) (upd bv f (.slice none 0 0)) (upd lv f (.slice none 0 0)) := by
  have ne : ∀ {i}, ids i → i ≠ f := fun hi e => hn (e ▸ hi)
  have eb : ∀ {i g}, (upd bv f (.slice none 0 0) i).ownBlock = some g → i ≠ f ∧ (bv i).ownBlock = some g := fun {i g} hg => by
    by_cases e : i = f
    · subst e; rw [upd_at] at hg; cases hg
    · rw [upd_ne _ _ e] at hg; exact ⟨e, hg⟩
  have el : ∀ {i g}, (upd lv f (.slice none 0 0) i).ownBlock = some g → i ≠ f ∧ (lv i).ownBlock = some g := fun {i g} hg => by
    by_cases e : i = f
    · subst e; rw [upd_at] at hg; cases hg
    · rw [upd_ne _ _ e] at hg; exact ⟨e, hg⟩
  refine ⟨fun i hi => ?_, fun i j g hi hj hg hl => ?_, fun i j g hi hj hij hg hl => ?_, fun i j g hi hj hij hg hl => ?_, fun i hi => ?_, fun i g hi hg => ?_, fun i g hi hg => ?_⟩
  · by_cases e : i = f
    · subst e
      rw [upd_at, upd_at, upd_at]
      exact ⟨hb, Sl.nil _ _ _, Sl.nil _ _ _, by simp [FD.Ok]⟩
    · rw [upd_ne _ _ e, upd_ne _ _ e, upd_ne _ _ e]
      exact h.file i (hi.resolve_left e)
  · obtain ⟨e1, hg⟩ := eb hg
    obtain ⟨e2, hl⟩ := el hl
    exact h.s1 i j g (hi.resolve_left e1) (hj.resolve_left e2) hg hl
  · obtain ⟨e1, hg⟩ := eb hg
    obtain ⟨e2, hl⟩ := eb hl
    exact h.s2 i j g (hi.resolve_left e1) (hj.resolve_left e2) hij hg hl
  · obtain ⟨e1, hg⟩ := el hg
    obtain ⟨e2, hl⟩ := el hl
    exact h.s3 i j g (hi.resolve_left e1) (hj.resolve_left e2) hij hg hl
  · rcases hi with rfl | hi
    · exact hf
    · exact hG _ (h.fi i hi)
  · obtain ⟨e1, hg⟩ := eb hg
    exact hG _ (h.fb i g (hi.resolve_left e1) hg)
  · obtain ⟨e1, hg⟩ := el hg
    exact hG _ (h.fl i g (hi.resolve_left e1) hg)
theorem Live.cr (h : Live p ids) (s : Nm) (f : Nat) : Live (p.chg (.cr s f)) (fun k => k = f ∨ ids k) :=
  ⟨fun x hx => by
    rcases Dir.mem_put.1 hx with rfl | hx
    · exact .inl rfl
    · exact .inr (h.now x hx.1), fun x hx => .inr (h.last x hx), fun c hc i hi => by
    rcases List.mem_append.1 hc with hc | hc
    · exact .inr (h.pend c hc i hi)
    · rw [List.mem_singleton.1 hc] at hi
      exact .inl (List.mem_singleton.1 hi)⟩
theorem own_d (d nb lb : Nat) (pv fv : Value) : d ∈ own d nb lb pv fv := by simp [own]
/-- A file has been laid. -/
theorem After.create {w1 w3 : World} (h : Dk w F d p fs ids nb lb pv fv bv lv) (hF : ∀ k, F k → k < w.heap.size) (ho : Only [d] w w1) (hd1 : DM w1 F d (p.op .cr) nb lb pv fv) {s : Nm}
    (hd3 : DM w3 (grow F (w1.alloc (.cells #[.slice none 0 0, .slice none 0 0, iv 0] 87)) w3) d ((p.op .cr).chg (.cr s w1.heap.size)) nb lb pv' fv)
    (ho3 : Only (own d nb lb pv fv) (w1.alloc (.cells #[.slice none 0 0, .slice none 0 0, iv 0] 87)) w3) (hlen : p.now.length < 256) (hsl : s.length ≤ 64) :
    After w F d ((p.op .cr).chg (.cr s w1.heap.size)) (upd fs w1.heap.size ⟨[], [], 0⟩) (fun k => k = w1.heap.size ∨ ids k) w3 := by
  have hs := ho.size
  have hs3 := ho3.size
  have hsa : (w1.alloc (.cells #[.slice none 0 0, .slice none 0 0, iv 0] 87)).heap.size = w1.heap.size + 1 := by simp
  rw [hsa] at hs3
  have ho13 : Only (own d nb lb pv fv) w w3 := (ho.mono fun k hk => by rw [List.mem_singleton.1 hk]; exact own_d _ _ _ _ _).trans' ((((Only.refl _ w1).alloc _)).trans ho3) fun i hi => .inl hi
  have hfs : FS w3 F ids fs bv lv := h.fs.own h.dm ho13
  have hd2 := hd1.only0 ((Only.refl [] w1).alloc (.cells #[.slice none 0 0, .slice none 0 0, iv 0] 87))
  have hb : Blk w3 w1.heap.size 87 #[.slice none 0 0, .slice none 0 0, iv 0] := (Blk.new w1 _ _).only ho3 (not_own hd2 (Blk.new w1 _ _) (by decide) (by decide) (by decide))
  have hn : ¬ ids w1.heap.size := fun hi => by
    have := hF _ (h.fs.fi _ hi)
    omega
  have hg : ∀ k, grow F (w1.alloc (.cells #[.slice none 0 0, .slice none 0 0, iv 0] 87)) w3 k → grow F w w3 k := fun k hk => by
    rcases hk with hk | ⟨h1, h2⟩
    · exact .inl hk
    · rw [hsa] at h1
      exact .inr ⟨by omega, h2⟩
  refine ⟨⟨⟨nb, lb, pv', fv, _, _, hd3.mono hg, hfs.add hb hn (fun _ hk => .inl hk) (.inr ⟨hs, by omega⟩), ?_, ?_⟩, grow_lt hF ho13.size⟩, Turn.of ho13 fun k hk => .inl (h.dm.own_F k hk)⟩
  · exact (h.live.op .cr).cr s _
  · refine (h.ok.op .cr).chg _ trivial ?_ ?_
    · have := put_len p.now s w1.heap.size
      show (p.now.put s w1.heap.size).length ≤ 256
      omega
    · intro x hx
      rcases Dir.mem_put.1 hx with rfl | hx
      · exact hsl
      · exact h.ok.names x hx.1
set_option maxRecDepth 100000 in
set_option maxHeartbeats 1600000 in
theorem create_ok (h0 : DK w F d p fs ids) (hc : p.calm) (hpl : p.pend.length ≤ 1048576) (s : Nm) : Calls Try.prog 9 #[cp d, sk s] w fun e w' =>
    ∃ f, w.heap.size ≤ f ∧ e = .returned (iv (p.create s f).1) ∧ After w F d (p.create s f).2.1 (fsN fs f (p.create s f).2.2) (idsN ids f (p.create s f).2.2) w' := by
  have HS := Lib.hid (After.same h0)
  have HF := Lib.hid h0.2
  obtain ⟨⟨nb, lb, pv, fv, bv, lv, h⟩, _⟩ := h0
  have HFI := Lib.hid (find_ok h.dm s)
  have HOP := Lib.hid (op_cr h.dm (Nat.le_trans h.ok.flt (by decide)))
  have HC := Lib.hid (hc.op .cr)
  have H := Lib.hid h
  have HPL := Lib.hid hpl
  have H6 := Lib.hid (find6 (p := p) (s := s))
  clear hpl
  unfold PD.create
  generalize findR p s = r at HFI H6 ⊢
  obtain ⟨fo, fe⟩ := r
  dsimp only at HFI H6 ⊢
  by_cases e0 : fe = 0
  · subst e0
    simp only [if_true]
    clear h hc HOP
    go_enter Try.func9, Try.ntmps9
    go_wp2_with fail
    refine HFI.out.mono ?_
    clear HFI
    rintro e w1 ⟨rfl, rfl⟩
    go_wp2
    exact bodyPost_ret (results_tmp rfl _ _ _) rfl ⟨w1.heap.size, Nat.le_refl _, rfl, HS.out⟩
  have k0 : (fe == 0) = false := by simpa using e0
  simp only [e0, if_false]
  by_cases e6 : fe = 6
  case neg =>
    have k6 : (fe != 6) = true := by simpa using e6
    simp only [e6, if_true, if_false, ne_eq, not_false_eq_true]
    clear h hc e0 e6 HOP
    go_enter Try.func9, Try.ntmps9
    go_wp2_with fail
    refine HFI.out.mono ?_
    clear HFI
    rintro e w1 ⟨rfl, rfl⟩
    go_wp2
    exact bodyPost_ret (results_tmp rfl _ _ _) rfl ⟨w1.heap.size, Nat.le_refl _, rfl, HS.out⟩
  subst e6
  have HSL := Lib.hid (H6.out rfl)
  clear H6
  simp only [ne_eq, not_true_eq_false, if_false]
  have x3 := h.dm.blk.cell 3
  have xl := h.dm.blk.lt
  have hln := DMap.len (P := Try.prog) (ty := 3) h.dm.now Try.underlying56
  simp [dcells] at x3
  by_cases hl : 256 ≤ p.now.length
  · have hlz : 256 ≤ (p.now.length : Int) := by omega
    simp only [hl, if_true]
    clear h hc e0 HOP
    go_enter Try.func9, Try.ntmps9
    go_wp2_with fail
    refine HFI.out.mono ?_
    clear HFI
    rintro e w1 ⟨rfl, rfl⟩
    go_wp2
    exact bodyPost_ret (results_tmp rfl _ _ _) rfl ⟨w1.heap.size, Nat.le_refl _, rfl, HS.out⟩
  have hlz : ¬ 256 ≤ (p.now.length : Int) := by omega
  have HLN := Lib.hid (show p.now.length < 256 by omega)
  simp only [hl, if_false]
  have x6 := h.dm.blk.lt
  clear h hc e0 hl
  by_cases hx : (p.op .cr).flt.2.1 = 0
  · simp only [hx, if_true]
    go_enter Try.func9, Try.ntmps9
    go_wp2_with fail
    refine HFI.out.mono ?_
    clear HFI
    rintro e w1 ⟨rfl, rfl⟩
    go_wp2_with fail
    refine HOP.out.mono ?_
    rintro e w2 ⟨rfl, hd, ho⟩
    have HD := Lib.hid hd
    have HO := Lib.hid ho
    clear HOP hd ho x3 xl hln x6
    have HD2 := Lib.hid (HD.out.only0 ((Only.refl [] w2).alloc (.cells #[.slice none 0 0, .slice none 0 0, iv 0] 87)))
    have HX := Lib.hid (change_ok HD2.out (p.op .cr).flt true (.cr s w2.heap.size) (.inl hx) trivial HPL.out)
    clear hx
    generalize (p.op .cr).flt = x at HX ⊢
    unfold fltV chgV at HX
    unfold fltV
    go_wp2_with fail
    refine HX.out.mono ?_
    rintro e w3 ⟨rfl, pv', hd3, ho3⟩
    have HE := Lib.hid (After.create H.out HF.out HO.out HD.out hd3 ho3 HLN.out HSL.out)
    have HSZ := Lib.hid HO.out.size
    clear hd3 ho3 HX HD2
    go_wp2
    exact bodyPost_ret (results_tmp rfl _ _ _) rfl ⟨w2.heap.size, HSZ.out, rfl, HE.out⟩
  · simp only [hx, if_false]
    have HL := Lib.hid ((H.out.live.op .cr).bef (p.op .cr).flt)
    have HK := Lib.hid ((H.out.ok.op .cr).bef (p.op .cr).flt)
    have HX0 := Lib.hid hx
    clear hx
    generalize (p.op .cr).flt = x at HOP HL HK HC HX0 ⊢
    go_enter Try.func9, Try.ntmps9
    go_wp2_with fail
    refine HFI.out.mono ?_
    clear HFI
    rintro e w1 ⟨rfl, rfl⟩
    go_wp2_with fail
    refine HOP.out.mono ?_
    rintro e w2 ⟨rfl, hd, ho⟩
    have HD := Lib.hid hd
    have HO := Lib.hid ho
    clear HOP hd ho x3 xl hln x6
    have HD2 := Lib.hid (HD.out.only0 ((Only.refl [] w2).alloc (.cells #[.slice none 0 0, .slice none 0 0, iv 0] 87)))
    have HX := Lib.hid (change_bad HD2.out x true (chgV (.cr s w2.heap.size)) HX0.out (.inr rfl) HC.out)
    unfold fltV chgV at HX
    unfold fltV
    go_wp2_with fail
    refine HX.out.mono ?_
    rintro e w3 ⟨rfl, hd3, ho3⟩
    have HE := Lib.hid (After.kept H.out HF.out (hd3.mono fun k hk => (.inl hk : grow F w1 w3 k)) (((HO.out.trans' ((Only.refl [] w2).alloc _) (by simp)).trans ho3).mono fun k hk => by rw [List.mem_singleton.1 hk]; exact own_d _ _ _ _ _) HL.out HK.out)
    clear hd3 ho3 HX HD2
    go_wp2
    exact bodyPost_ret (results_tmp rfl _ _ _) rfl ⟨w1.heap.size, Nat.le_refl _, rfl, HE.out⟩
end
end Go.Proofs.Ythekilgolelomaa
