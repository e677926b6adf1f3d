/-
  The disk: files by other numbers; a file's twin; changes' copies.
-/
import Derived.Test.YthekilgolelomaaKc
import Derived.Test.YthekilgolelomaaDv
set_option linter.unusedSimpArgs false
set_option linter.unusedVariables false
namespace Go.Proofs.Ythekilgolelomaa
open Go.RowKit Go.Fl

/-! ### Files by other numbers -/
def dren (σ : Nat → Nat) (d : Dir) : Dir := d.map fun p => (p.1, σ p.2)
section
variable {σ τ : Nat → Nat} {d : Dir} {s : Nm} {f : Nat}
theorem dren_del : dren σ (d.del s) = (dren σ d).del s := by
  unfold dren Dir.del
  rw [List.filter_map]
  rfl
theorem takeWhile_ren {q : Nm → Bool} : ∀ {d : Dir}, dren σ (d.takeWhile fun p => q p.1) = (dren σ d).takeWhile fun p => q p.1
  | [] => rfl
  | x :: d => by
    unfold dren
    rw [List.map_cons, List.takeWhile_cons, List.takeWhile_cons]
    cases q x.1
    · rfl
    · simp only [if_true, List.map_cons]
      congr 1
      exact takeWhile_ren
theorem dropWhile_ren {q : Nm → Bool} : ∀ {d : Dir}, dren σ (d.dropWhile fun p => q p.1) = (dren σ d).dropWhile fun p => q p.1
  | [] => rfl
  | x :: d => by
    unfold dren
    rw [List.map_cons, List.dropWhile_cons, List.dropWhile_cons]
    cases q x.1
    · rfl
    · simp only [if_true]
      exact dropWhile_ren
theorem dren_put : dren σ (d.put s f) = (dren σ d).put s (σ f) := by
  unfold Dir.put
  rw [← dren_del, ← takeWhile_ren (q := fun n => nl n s), ← dropWhile_ren (q := fun n => nl n s)]
  unfold dren
  rw [List.map_append, List.map_cons]
theorem dren_get : (dren σ d).get s = (d.get s).map σ := by
  unfold dren Dir.get
  rw [List.find?_map, Option.map_map, Option.map_map]
  rfl
theorem dren_srt (h : Dir.Srt d) : Dir.Srt (dren σ d) := List.pairwise_map.2 (h.imp fun h => h)
theorem dren_congr (h : ∀ x ∈ d, σ x.2 = τ x.2) : dren σ d = dren τ d := List.map_congr_left fun x hx => by rw [h x hx]
theorem dren_len : (dren σ d).length = d.length := List.length_map _
theorem mem_dren {x : Nm × Nat} (h : x ∈ dren σ d) : ∃ y ∈ d, x = (y.1, σ y.2) := by
  obtain ⟨y, hy, rfl⟩ := List.mem_map.1 h
  exact ⟨y, hy, rfl⟩
def Chg.ren (σ : Nat → Nat) : Chg → Chg
  | .cr s f => .cr s (σ f)
  | c => c
theorem do_ren (c : Chg) (d : Dir) : (c.ren σ).do_ (dren σ d) = dren σ (c.do_ d) := by
  cases c with
  | cr s f => exact dren_put.symm
  | rm s => exact dren_del.symm
  | rn a b =>
    show (match (dren σ d).get a with | some f => ((dren σ d).del a).put b f | none => dren σ d) = dren σ (match d.get a with | some f => (d.del a).put b f | none => d)
    rw [dren_get]
    cases d.get a with
    | none => rfl
    | some f => exact (by rw [dren_put, dren_del] : ((dren σ d).del a).put b (σ f) = dren σ ((d.del a).put b f))
theorem doAll_ren : ∀ (l : List Chg) (d : Dir), doAll (dren σ d) (l.map (Chg.ren σ)) = dren σ (doAll d l)
  | [], _ => rfl
  | c :: l, d => by
    show doAll ((c.ren σ).do_ (dren σ d)) (l.map (Chg.ren σ)) = dren σ (doAll (c.do_ d) l)
    rw [do_ren, doAll_ren l]
theorem okAll_ren : ∀ {l : List Chg} {d : Dir}, okAll d l → okAll (dren σ d) (l.map (Chg.ren σ))
  | [], _, _ => trivial
  | c :: l, d, h => by
    refine ⟨?_, by rw [do_ren]; exact okAll_ren h.2⟩
    cases c with
    | cr s f => trivial
    | rm s => trivial
    | rn a b =>
      show ((dren σ d).get a).isSome = true
      rw [dren_get, Option.isSome_map]
      exact h.1
end
def PD.ren (σ : Nat → Nat) (p : PD) : PD := { p with now := dren σ p.now, last := dren σ p.last, pend := p.pend.map (Chg.ren σ) }
theorem PD.Ok.ren {p : PD} (h : p.Ok) (σ : Nat → Nat) : (p.ren σ).Ok :=
  ⟨dren_srt h.snow, dren_srt h.slast, by show doAll (dren σ p.last) (p.pend.map (Chg.ren σ)) = dren σ p.now; rw [doAll_ren, h.go], okAll_ren h.ok, ⟨by show (dren σ p.now).length ≤ 256; rw [dren_len]; exact h.len.1, by show (dren σ p.last).length ≤ 256; rw [dren_len]; exact h.len.2⟩, h.flt, h.most, fun n => by
    show (doAll (dren σ p.last) ((p.pend.map (Chg.ren σ)).take n)).length ≤ 256 ∧ ∀ x ∈ doAll (dren σ p.last) ((p.pend.map (Chg.ren σ)).take n), x.1.length ≤ 64
    rw [← List.map_take, doAll_ren, dren_len]
    refine ⟨(h.pre n).1, fun x hx => ?_⟩
    obtain ⟨y, hy, rfl⟩ := mem_dren hx
    exact (h.pre n).2 y hy⟩
theorem PD.after_ren (σ : Nat → Nat) (p : PD) (n : Int) : (p.ren σ).after n = dren σ (p.after n) := by
  show doAll (dren σ p.last) ((p.pend.map (Chg.ren σ)).take n.toNat) = dren σ (doAll p.last (p.pend.take n.toNat))
  rw [← List.map_take, doAll_ren]
/-! ### Twins -/
/-- Files that have been copied: which, and where. -/
structure TW (w : World) (base mb : Nat) (m : List (Nat × Nat)) (fs gs : Nat → FD) (bw lw : Nat → Value) (js : Nat → Prop) : Prop where
  map : PMap w mb m
  mem : FS w (fun k => base ≤ k ∧ k < w.heap.size) js gs bw lw
  is_ : ∀ x y, pGet m x = some y → js y ∧ gs y = fs x
  inj : ∀ x z y, pGet m x = some y → pGet m z = some y → x = z
def TX (w : World) (base mb : Nat) (m : List (Nat × Nat)) (fs : Nat → FD) : Prop := ∃ gs bw lw js, TW w base mb m fs gs bw lw js
/-- One more has been copied. -/
structure TO (w w' : World) (base mb : Nat) (m m' : List (Nat × Nat)) (fs : Nat → FD) (S : Nat → Prop) : Prop where
  tx : TX w' base mb m' fs
  old : ∀ z u, pGet m z = some u → pGet m' z = some u
  new : ∀ p ∈ m', p ∈ m ∨ S p.1
  only : Only [mb] w w'
section
variable {w w' wa : World} {base mb : Nat} {m m' : List (Nat × Nat)} {fs gs : Nat → FD} {bw lw : Nat → Value} {js : Nat → Prop}
theorem TX.map_ (h : TX w base mb m fs) : PMap w mb m := by
  obtain ⟨_, _, _, _, h⟩ := h
  exact h.map
theorem TX.far (h : TX w base mb m fs) {S : List Nat} (ho : Only S w w') (hS : ∀ k ∈ S, (∀ t cs, Blk w k t cs → t ≠ 87 ∧ t ≠ 5) ∧ k ≠ mb) : TX w' base mb m fs := by
  obtain ⟨gs, bw, lw, js, h⟩ := h
  refine ⟨gs, bw, lw, js, h.map.only ho fun hm => (hS mb hm).2 rfl, ?_, h.is_, h.inj⟩
  refine FS.mono (FS.far h.mem ho fun k hk t cs hc => (hS k hk).1 t cs hc) fun k hk => ⟨hk.1, Nat.lt_of_lt_of_le hk.2 ho.size⟩
theorem TX.only0 (h : TX w base mb m fs) (ho : Only [] w w') : TX w' base mb m fs := h.far ho (by simp)
theorem TW.push {wa wb : World} {x y : Nat} {b' l' : Value} (h : TW w base mb m fs gs bw lw js) (hb : base ≤ w.heap.size) (hn : pGet m x = none) (h1 : Only [] w wa) (h2 : Only [mb] wa wb) (hm : PMap wb mb (m ++ [(x, y)])) (hy : w.heap.size ≤ y) (hf : FM wa y (fs x) b' l')
    (ob : ∀ g, b'.ownBlock = some g → w.heap.size ≤ g) (ol : ∀ g, l'.ownBlock = some g → w.heap.size ≤ g) (obl : ∀ g, b'.ownBlock = some g → l'.ownBlock ≠ some g) :
    TW wb base mb (m ++ [(x, y)]) fs (upd gs y (fs x)) (upd bw y b') (upd lw y l') (fun k => k = y ∨ js k) := by
  have hmp : ∀ k ∈ [mb], ∀ t cs, ¬ Blk wa k t cs := fun k hk t cs hc => by
    rw [List.mem_singleton.1 hk] at hc
    exact (h.map.only h1 (by simp)).not_cells hc rfl
  have hlt : ∀ i, js i → i < w.heap.size := fun i hi => (h.mem.file i hi).blk.lt
  have hf2 : FM wb y (fs x) b' l' := FM.far hf h2 hmp
  have hs2 := h2.size
  have hs1 := h1.size
  have hfs : FS wb (fun k => base ≤ k ∧ k < w.heap.size) js gs bw lw := FS.far (FS.far h.mem h1 (by simp)) h2 fun k hk t cs hc => absurd hc (hmp k hk t cs)
  refine ⟨hm, FS.add2 hfs hf2 (fun hj => by have := hlt y hj; omega) (fun k hk => ⟨hk.1, by omega⟩) ⟨by omega, hf2.blk.lt⟩ (fun k hk => ⟨⟨Nat.le_trans hb (ob k hk), hf2.b.lt k hk⟩, fun hh => by have := ob k hk; omega⟩) (fun k hk => ⟨⟨Nat.le_trans hb (ol k hk), hf2.l.lt k hk⟩, fun hh => by have := ol k hk; omega⟩) obl, fun a u hu => ?_, fun a c u hu hv => ?_⟩
  · rw [pGet_push m x y a hn] at hu
    split at hu
    · rename_i e
      injection hu with hu
      subst hu
      exact ⟨.inl rfl, by rw [upd_at, e]⟩
    · obtain ⟨j1, j2⟩ := h.is_ a u hu
      have := hlt u j1
      exact ⟨.inr j1, by rw [upd_ne _ _ (by omega)]; exact j2⟩
  · rw [pGet_push m x y _ hn] at hu hv
    split at hu <;> split at hv
    · rename_i e1 e2; rw [e1, e2]
    · injection hu with hu
      have := hlt u (h.is_ c u hv).1
      omega
    · injection hv with hv
      have := hlt u (h.is_ a u hu).1
      omega
    · exact h.inj a c u hu hv
theorem infof : (Try.prog.info? 87).map (fun i => (i.zero, i.size, i.bytes)) = some (some (.agg #[.slice none 0 0, .slice none 0 0, .int .i64 0]), 3, 56) := by kernel_rfl
set_option maxRecDepth 100000 in
set_option maxHeartbeats 1600000 in
theorem twin_ok (h : TX w base mb m fs) (hb : base ≤ w.heap.size) (hm : ∀ p ∈ m, Lies w p.1) {x : Nat} {bx lx : Value} (hx : FM w x (fs x) bx lx) : Calls Try.prog 54 #[fp x, .map (some mb)] w fun e w' =>
    ∃ y, e = .returned (fp y) ∧ ∃ m', TO w w' base mb m m' fs (· = x) ∧ pGet m' x = some y := by
  obtain ⟨gs, bw, lw, js, h⟩ := h
  obtain ⟨jf, fi, _, fsz, _⟩ := info_parts infof
  have hsz : jf.size ≠ 0 := by rw [fsz]; decide
  have hlx : Lies w x := ⟨_, _, hx.blk⟩
  have hl := PMap.lookup (P := Try.prog) h.map hm hlx Try.underlying106 Try.underlying78 fi hsz zero79
  have H := Lib.hid h
  have HB := Lib.hid hb
  cases hg : pGet m x with
  | some y =>
    rw [hg] at hl
    unfold optP at hl
    clear h hb hm hx hlx
    go_enter Try.func54, Try.ntmps54
    go_wp2
    exact bodyPost_ret (results_tmp rfl _ _ _) rfl ⟨_, rfl, m, ⟨⟨gs, bw, lw, js, H.out⟩, fun _ _ h => h, fun _ h => .inl h, Only.refl _ _⟩, hg⟩
  | none =>
    rw [hg] at hl
    unfold optP at hl
    have HM := Lib.hid hm
    have HX := Lib.hid hlx
    have HG := Lib.hid hg
    have HCP := Lib.hid (fcopy_ok hx)
    clear h hb hm hx hlx hg
    go_enter Try.func54, Try.ntmps54
    go_wp2_with fail
    refine HCP.out.mono ?_
    rintro e w1 ⟨y, rfl, b', l', hy, hf, ho, ob, ol, obl⟩
    have HM1 := Lib.hid (H.out.map.only ho (by simp))
    have HK1 := Lib.hid (show ∀ p ∈ m, Lies w1 p.1 from fun p hp => (HM.out p hp).only ho (by simp))
    have HX1 := Lib.hid (HX.out.only ho (by simp))
    have HO1 := Lib.hid ho
    have HY := Lib.hid hy
    have HF := Lib.hid (show FM w1 y (fs x) b' l' ∧ (∀ g, b'.ownBlock = some g → w.heap.size ≤ g) ∧ (∀ g, l'.ownBlock = some g → w.heap.size ≤ g) ∧ ∀ g, b'.ownBlock = some g → l'.ownBlock ≠ some g from ⟨hf, ob, ol, obl⟩)
    clear hy hf ho ob ol obl HCP hl
    go_wp2_with (at_mapUpdate; refine wpList_ppush rfl (.tmp 9) (.tmp 10) (.tmp 12) 106 rfl 78 87 78 Try.underlying106 Try.underlying78 fi hsz rfl rfl rfl HM1.out HK1.out HX1.out HG.out ?_)
    intro w2 hm2 ho2 hz2
    have HT := Lib.hid (TW.push H.out HB.out HG.out HO1.out ho2 hm2 HY.out HF.out.1 HF.out.2.1 HF.out.2.2.1 HF.out.2.2.2)
    have HO2 := Lib.hid (show Only [mb] w w2 from (HO1.out.mono (by simp)).trans ho2)
    have hg2 : pGet (m ++ [(x, y)]) x = some y := by rw [pGet_push m x y x HG.out, if_pos rfl]
    have hl2 := PMap.lookup (P := Try.prog) hm2 (fun p hp => by
      have hmm : ∀ q : Nat, Lies w1 q → Lies w2 q := fun q hq => hq.only ho2 (by
        obtain ⟨t, cs, hc⟩ := hq
        simpa using (HM1.out.not_cells hc).symm)
      rcases List.mem_append.1 hp with hp | hp
      · exact hmm _ (HK1.out p hp)
      · rw [List.mem_singleton.1 hp]; exact hmm _ HX1.out) (HX1.out.only ho2 (by
        obtain ⟨t, cs, hc⟩ := HX1.out
        simpa using (HM1.out.not_cells hc).symm)) Try.underlying106 Try.underlying78 fi hsz zero79
    rw [hg2] at hl2
    unfold optP at hl2
    have HG2 := Lib.hid hg2
    clear hm2 ho2 hz2 hg2
    go_wp2
    refine bodyPost_ret (results_tmp rfl _ _ _) rfl ⟨_, rfl, _, ⟨⟨_, _, _, _, HT.out⟩, fun z u hu => ?_, fun p hp => ?_, HO2.out⟩, HG2.out⟩
    · rw [pGet_push m x y z HG.out]
      split
      · rename_i e; rw [e, HG.out] at hu; cases hu
      · exact hu
    · rcases List.mem_append.1 hp with hp | hp
      · exact .inl hp
      · exact .inr (by rw [List.mem_singleton.1 hp])
end
end Go.Proofs.Ythekilgolelomaa
