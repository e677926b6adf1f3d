/-
  The disk: a change that does not come to be; the whole disk in memory.
-/
import Derived.Test.YthekilgolelomaaDg
set_option linter.unusedSimpArgs false
set_option linter.unusedVariables false
namespace Go.Proofs.Ythekilgolelomaa
open Go.RowKit Go.Fl

section
variable {w w' : World} {F : Nat → Prop} {d : Nat} {p p' : PD} {fs : Nat → FD} {ids : Nat → Prop} {nb lb : Nat} {pv fv pv' fv' : Value} {bv lv : Nat → Value}
set_option maxRecDepth 100000 in
set_option maxHeartbeats 1600000 in
theorem change_bad (h : DM w F d p nb lb pv fv) (x : Flt) (full : Bool) (v : Value) (h0 : x.2.1 ≠ 0) (hx : x.2.1 ≠ 2 ∨ full = true) (h4 : x.2.1 ≠ 4) :
    Calls Try.prog 31 #[cp d, fltV x, .bool full, v] w fun e w' => e = .returned (iv (befR x)) ∧ DM w' F d (p.bef x) nb lb pv fv ∧ Only [d] w w' := by
  have HO := Lib.hid (show Only [] w (w.alloc (.cells #[iv x.1, iv x.2.1, iv x.2.2] 83)) from (Only.refl _ _).alloc _)
  have HB := Lib.hid (befall_ok (h.only0 HO.out) x h4)
  have hr := Blk.new w 83 #[iv x.1, iv x.2.1, iv x.2.2]
  have HR := Lib.hid hr
  have c1 := hr.cell 1
  have xl := hr.lt
  simp at c1
  have k0 : (x.2.1 != 0) = true := by simpa using h0
  unfold fltV at HB ⊢
  clear h hr h0 h4
  cases full
  · have hx2 : x.2.1 ≠ 2 := by simpa using hx
    have k2 : (x.2.1 != 2) = true := by simpa using hx2
    clear hx hx2
    go_enter Try.func31, Try.ntmps31
    go_wp2_with fail
    refine HB.out.mono ?_
    rintro e w1 ⟨rfl, hd1, ho1⟩
    have HD1 := Lib.hid hd1
    have HO1 := Lib.hid ((HO.out.mono (by simp)).trans ho1)
    clear hd1 ho1 HB
    go_wp2
    exact bodyPost_ret (results_tmp rfl _ _ _) rfl ⟨rfl, HD1.out, HO1.out⟩
  · clear hx
    cases k2 : (x.2.1 != 2)
    ·
      go_enter Try.func31, Try.ntmps31
      go_wp2_with fail
      refine HB.out.mono ?_
      rintro e w1 ⟨rfl, hd1, ho1⟩
      have HD1 := Lib.hid hd1
      have HO1 := Lib.hid ((HO.out.mono (by simp)).trans ho1)
      clear hd1 ho1 HB
      go_wp2
      exact bodyPost_ret (results_tmp rfl _ _ _) rfl ⟨rfl, HD1.out, HO1.out⟩
    ·
      go_enter Try.func31, Try.ntmps31
      go_wp2_with fail
      refine HB.out.mono ?_
      rintro e w1 ⟨rfl, hd1, ho1⟩
      have HD1 := Lib.hid hd1
      have HO1 := Lib.hid ((HO.out.mono (by simp)).trans ho1)
      clear hd1 ho1 HB
      go_wp2
      exact bodyPost_ret (results_tmp rfl _ _ _) rfl ⟨rfl, HD1.out, HO1.out⟩
set_option maxRecDepth 100000 in
set_option maxHeartbeats 1600000 in
theorem change_nil (h : DM w F d p nb lb pv fv) (x : Flt) (hx : x.2.1 = 0 ∨ x.2.1 = 2) :
    Calls Try.prog 31 #[cp d, fltV x, .bool false, .nilIface] w fun e w' => e = .returned (iv 0) ∧ DM w' F d p nb lb pv fv ∧ Only [] w w' := by
  obtain ⟨xa, xb, xc⟩ := x
  unfold fltV
  dsimp only at hx ⊢
  have HO := Lib.hid (show Only [] w (w.alloc (.cells #[iv xa, iv xb, iv xc] 83)) from (Only.refl _ _).alloc _)
  have HD := Lib.hid (h.only0 HO.out)
  have hr := Blk.new w 83 #[iv xa, iv xb, iv xc]
  have c1 := hr.cell 1
  have xl := hr.lt
  simp at c1
  clear h hr
  rcases hx with hx | hx
  · subst hx
    go_enter Try.func31, Try.ntmps31
    go_wp2
    exact bodyPost_ret (results_tmp rfl _ _ _) rfl ⟨rfl, HD.out, HO.out⟩
  · subst hx
    go_enter Try.func31, Try.ntmps31
    go_wp2
    exact bodyPost_ret (results_tmp rfl _ _ _) rfl ⟨rfl, HD.out, HO.out⟩
/-! ### The whole disk in memory -/
theorem not_own (h : DM w F d p nb lb pv fv) {g t : Nat} {cs : Array Value} (hb : Blk w g t cs) (h1 : t ≠ 59) (h2 : t ≠ 109) (h3 : t ≠ 83) : g ∉ own d nb lb pv fv := by
  intro hm
  simp [own] at hm
  rcases hm with rfl | rfl | rfl | hm | hm
  · exact Blk.ne_ hb h.blk h1 rfl
  · exact h.now.not_cells hb rfl
  · exact h.last.not_cells hb rfl
  · obtain ⟨cur, hc⟩ := Go.Proofs.Ythekilgolelomaa.Sl.blk h.pend hm
    exact Blk.ne_ hb hc h2 rfl
  · obtain ⟨cur, hc⟩ := Go.Proofs.Ythekilgolelomaa.Sl.blk h.flt hm
    exact Blk.ne_ hb hc h3 rfl
/-- The disk's own memory turns: its files stay. -/
theorem FS.own (h : FS w F ids fs bv lv) (hd : DM w F d p nb lb pv fv) (ho : Only (own d nb lb pv fv) w w') : FS w' F ids fs bv lv :=
  ⟨fun i hi => by
    have hf := h.file i hi
    refine hf.keep (ho.block i hf.blk.lt (not_own hd hf.blk (by decide) (by decide) (by decide))) (fun g hg => ?_) (fun g hg => ?_)
    · obtain ⟨cur, hc⟩ := Go.Proofs.Ythekilgolelomaa.Sl.blk hf.b hg
      exact ho.block g hc.lt (not_own hd hc (by decide) (by decide) (by decide))
    · obtain ⟨cur, hc⟩ := Go.Proofs.Ythekilgolelomaa.Sl.blk hf.l hg
      exact ho.block g hc.lt (not_own hd hc (by decide) (by decide) (by decide)), h.s1, h.s2, h.s3, h.fi, h.fb, h.fl⟩
theorem DM.own_F (h : DM w F d p nb lb pv fv) : ∀ k ∈ own d nb lb pv fv, F k := by
  intro k hk
  simp [own] at hk
  rcases hk with rfl | rfl | rfl | hk | hk
  · exact h.fd
  · exact h.fn
  · exact h.fl
  · exact h.fp_ k hk
  · exact h.ff k hk
/-- A disk in memory, whatever its blocks. -/
def DK (w : World) (F : Nat → Prop) (d : Nat) (p : PD) (fs : Nat → FD) (ids : Nat → Prop) : Prop :=
  (∃ nb lb pv fv bv lv, Dk w F d p fs ids nb lb pv fv bv lv) ∧ ∀ k, F k → k < w.heap.size
theorem grow_mono {F G : Nat → Prop} {a b c : World} (h : ∀ k, G k → grow F a b k) (hbc : b.heap.size ≤ c.heap.size) (hab : a.heap.size ≤ b.heap.size) : ∀ k, grow G b c k → grow F a c k := by
  intro k hk
  rcases hk with hk | ⟨h1, h2⟩
  · rcases h k hk with h | ⟨h1, h2⟩
    · exact .inl h
    · exact .inr ⟨h1, by omega⟩
  · exact .inr ⟨by omega, h2⟩
theorem grow_lt {F : Nat → Prop} (h : ∀ k, F k → k < w.heap.size) (hs : w.heap.size ≤ w'.heap.size) : ∀ k, grow F w w' k → k < w'.heap.size := by
  intro k hk
  rcases hk with hk | ⟨_, h2⟩
  · have := h k hk
    omega
  · exact h2
theorem DK.mono {G : Nat → Prop} (h : DK w F d p fs ids) (hG : ∀ k, F k → G k) (hb : ∀ k, G k → k < w.heap.size) : DK w G d p fs ids := by
  obtain ⟨⟨nb, lb, pv, fv, bv, lv, h1⟩, _⟩ := h
  exact ⟨⟨nb, lb, pv, fv, bv, lv, h1.dm.mono hG, h1.fs.mono hG, h1.live, h1.ok⟩, hb⟩
theorem DK.turn {G : Nat → Prop} (h : DK w F d p fs ids) (ht : Turn G w w') (hd : ∀ k, F k → ¬ G k) : DK w' F d p fs ids := by
  obtain ⟨⟨nb, lb, pv, fv, bv, lv, h1⟩, h2⟩ := h
  exact ⟨⟨nb, lb, pv, fv, bv, lv, h1.turn ht fun k _ => hd k⟩, fun k hk => Nat.lt_of_lt_of_le (h2 k hk) ht.size⟩
theorem DK.only0 (h : DK w F d p fs ids) (ho : Only [] w w') : DK w' F d p fs ids := by
  obtain ⟨⟨nb, lb, pv, fv, bv, lv, h1⟩, h2⟩ := h
  exact ⟨⟨nb, lb, pv, fv, bv, lv, h1.only0 ho⟩, fun k hk => Nat.lt_of_lt_of_le (h2 k hk) ho.size⟩
/-- What an operation leaves: the disk, and all else. -/
def After (w : World) (F : Nat → Prop) (d : Nat) (p : PD) (fs : Nat → FD) (ids : Nat → Prop) (w' : World) : Prop := DK w' (grow F w w') d p fs ids ∧ Turn F w w'
theorem After.same (h : DK w F d p fs ids) : After w F d p fs ids w :=
  ⟨h.mono (fun _ hk => .inl hk) (grow_lt h.2 (Nat.le_refl _)), Turn.refl _ _⟩
theorem After.quiet (h : DK w F d p fs ids) (ho : Only [] w w') : After w F d p fs ids w' :=
  ⟨(h.only0 ho).mono (fun _ hk => .inl hk) (grow_lt h.2 ho.size), Turn.of ho (by simp)⟩
/-- The disk's own memory has turned. -/
theorem After.kept (h : Dk w F d p fs ids nb lb pv fv bv lv) (hF : ∀ k, F k → k < w.heap.size) (hd : DM w' (grow F w w') d p' nb lb pv' fv') (ho : Only (own d nb lb pv fv) w w') (hl : Live p' ids) (hk : p'.Ok) : After w F d p' fs ids w' :=
  ⟨⟨⟨nb, lb, pv', fv', bv, lv, hd, (h.fs.own h.dm ho).mono fun _ hk => .inl hk, hl, hk⟩, grow_lt hF ho.size⟩, Turn.of ho fun k hk => .inl (h.dm.own_F k hk)⟩
theorem After.trans {w1 w2 : World} {p1 p2 : PD} {fs1 fs2 : Nat → FD} {ids1 ids2 : Nat → Prop} (h : After w F d p1 fs1 ids1 w1) (k : After w1 (grow F w w1) d p2 fs2 ids2 w2) : After w F d p2 fs2 ids2 w2 :=
  ⟨k.1.mono (grow_mono (fun _ h => h) k.2.size h.2.size) (fun i hi => by
    rcases hi with hi | hi
    · exact k.1.2 i (.inl (.inl hi))
    · exact hi.2), h.2.trans k.2 fun i hi => by
    rcases hi with hi | hi
    · exact .inl hi
    · exact .inr hi.1⟩
theorem After.quiet_then {w1 w2 : World} {p2 : PD} {fs2 : Nat → FD} {ids2 : Nat → Prop} (ho : Only [] w w1) (k : After w1 F d p2 fs2 ids2 w2) : After w F d p2 fs2 ids2 w2 :=
  ⟨k.1.mono (fun i hi => by
    rcases hi with hi | hi
    · exact .inl hi
    · exact .inr ⟨Nat.le_trans ho.size hi.1, hi.2⟩) (fun i hi => by
    rcases hi with hi | hi
    · exact k.1.2 i (.inl hi)
    · exact hi.2), (Turn.of ho (by simp) : Turn F w w1).trans k.2 fun i hi => .inl hi⟩
theorem After.then_quiet {w1 w2 : World} (h : After w F d p fs ids w1) (ho : Only [] w1 w2) : After w F d p fs ids w2 := h.trans (After.quiet h.1 ho)
end
end Go.Proofs.Ythekilgolelomaa
