/-
  The disk's begun.
-/
import Derived.Test.YthekilgolelomaaDv
import Derived.Laws.IdiomStrings
import Derived.Lib.BufferRead
set_option linter.unusedSimpArgs false
set_option linter.unusedVariables false
namespace Go.Proofs.Ythekilgolelomaa
open Go.RowKit Go.Fl

theorem sr_by {w : World} {l : List UInt8} {cs : Array Value} {mk : Nat × Nat} (hc : cs.toList = byV l) (hl : l.length ≤ maxLen) : Sr (w.alloc (.cells cs 5 mk)) 1 (.slice (some ⟨w.heap.size, 0, none⟩) l.length l.length) l.length (byV l) := by
  have := Sr.marked w 5 cs mk (n := l.length) (size := 1) (by rw [← Array.length_toList, hc]; simp [byV]) hl
  rw [hc] at this
  exact this
theorem sl_by {w : World} {g : Nat} {l : List UInt8} {cs : Array Value} (h : Blk w g 5 cs) (hc : cs.toList = byV l) (hl : l.length ≤ maxLen) : Sl w 5 1 (.slice (some ⟨g, 0, none⟩) l.length l.length) l.length (byV l) := by
  have := sl_new (n := l.length) (size := 1) h (by rw [← Array.length_toList, hc]; simp [byV]) hl
  rw [hc] at this
  exact this
section
variable {w w' : World} {F G : Nat → Prop} {d : Nat} {p p' : PD} {fs : Nat → FD} {ids : Nat → Prop} {nb lb : Nat} {pv fv pv' fv' : Value} {bv lv : Nat → Value}
def abc : List UInt8 := [97, 98, 99]
def xyz : List UInt8 := [120, 121, 122]
def axy : List UInt8 := [97, 120, 121]
def bg1 (f : Nat) : PD := ((PD.new 100).op .cr).chg (.cr [97] f)
def bg2 (f : Nat) : PD := ((bg1 f).op .ds).settle
def bg3 (f : Nat) : PD := (((bg2 f).op .ap).byte 3).bef (0, 0, 0)
def bf0 (f : Nat) : Nat → FD := upd (fun _ => ⟨[], [], 0⟩) f ⟨[], [], 0⟩
theorem bg_create (f : Nat) : (PD.new 100).create [97] f = (0, bg1 f, true) := rfl
theorem bg_sdir (f : Nat) : (bg1 f).sdir = (0, bg2 f) := rfl
theorem bg_find (f : Nat) : findR (bg2 f) [97] = (some f, 0) := rfl
theorem bg_append (f : Nat) : (bg2 f).append (bf0 f) [97] abc = ((3, 0), bg3 f, upd (bf0 f) f ⟨abc, [], 0⟩) := by
  unfold PD.append
  rw [bg_find]
  have h0 : (bf0 f) f = ⟨[], [], 0⟩ := upd_at _ _ _
  have h1 : lens (bf0 f) (bg2 f).now = 0 := by
    show (((([([97], f)] : Dir).map fun x => ((bf0 f) x.2).b.length).sum : Nat) : Int) = 0
    simp [h0]
  have hf : ((bg2 f).op .ap).flt = (0, 0, 0) := rfl
  have h2 : (bg2 f).fit (bf0 f) abc.length = 3 := by
    unfold PD.fit PD.room
    rw [h1, hf]
    rfl
  dsimp only
  rw [h2, h0, hf]
  rfl
theorem bg_after (f : Nat) : (bg3 f).after 0 = [([97], f)] := rfl
theorem bg_left : (FD.mk abc [] 0).left 1 xyz = axy := by decide
theorem bg_tcs (f : Nat) : tcs (upd (bf0 f) f ⟨abc, [], 0⟩) [([97], f)] = [sk [97], iv 3] := by
  show [sk [97], iv ((upd (bf0 f) f ⟨abc, [], 0⟩) f).tail.length] = _
  rw [upd_at]
  rfl
theorem bg_crash (f : Nat) (v : Value) : crashV (upd (bf0 f) f ⟨abc, [], 0⟩) (kpat [(1, v, xyz)]) [([97], f)] = [([97], FD.flat axy)] := by
  show [([97], FD.flat (((upd (bf0 f) f ⟨abc, [], 0⟩) f).left 1 xyz))] = _
  rw [upd_at, bg_left]
theorem view_one {fs : Nat → FD} {D : Dir} {s : Nm} {x : FD} (h : view fs D = [(s, x)]) : ∃ g, D = [(s, g)] ∧ fs g = x := by
  unfold view at h
  match D, h with
  | [(s', g)], h =>
    injection h with h _
    injection h with h1 h2
    exact ⟨g, by rw [← h1], h2⟩
theorem bg_read {fs : Nat → FD} {f g : Nat} (h : fs g = FD.flat axy) : ((bg3 f).crash [([97], g)]).read fs [97] 0 3 = (axy, 0) := by
  have h1 : findR ((bg3 f).crash [([97], g)]) [97] = (some g, 0) := rfl
  unfold PD.read
  rw [h1]
  dsimp only
  rw [h]
  rfl
theorem conv_by {w : World} {v : Value} {l : List UInt8} (h : Sl w 5 1 v l.length (byV l)) : (convert 29 9 v).run Try.prog w = .ok (sk l) w := by
  by_cases h0 : 0 < l.length
  · obtain ⟨g, off, cap, rfl, _, _, _, hc, _⟩ := h.form h0
    have := run_convert_bytes_back (P := Try.prog) w 29 9 5 ⟨g, off, none⟩ cap l Try.underlying29 Try.underlying5 Try.underlying9 (fun j hj => by
      have h1 := h.cells_ j (.int .u8 (l[j]).toNat) (by unfold byV; simp [hj])
      exact h1)
    simpa using this
  · obtain rfl : l = [] := List.eq_nil_of_length_eq_zero (by omega)
    rcases h.2 with ⟨rfl, _⟩ | ⟨g, off, cap, cur, rfl, hh, _⟩
    · exact Lib.run_convert_nil_bytes w 29 9 5 0 Try.underlying29 Try.underlying5 Try.underlying9
    · exact run_convert_bytes_back (P := Try.prog) w 29 9 5 ⟨g, off, none⟩ cap [] Try.underlying29 Try.underlying5 Try.underlying9 (fun j hj => absurd hj (Nat.not_lt_zero _))
/-- The disk is a call's own. -/
structure Own (w0 w : World) (F : Nat → Prop) (d : Nat) (p : PD) (fs : Nat → FD) (ids : Nat → Prop) : Prop where
  dk : DK w F d p fs ids
  only : Only [] w0 w
  own : ∀ k, F k → w0.heap.size ≤ k
theorem Own.quiet {w0 : World} (h : Own w0 w F d p fs ids) (ho : Only [] w w') : Own w0 w' F d p fs ids := ⟨h.dk.only0 ho, h.only.trans ho, h.own⟩
theorem Own.step {w0 : World} {p' : PD} {fs' : Nat → FD} {ids' : Nat → Prop} (h : Own w0 w F d p fs ids) (ha : After w F d p' fs' ids' w') : Own w0 w' (grow F w w') d p' fs' ids' :=
  ⟨ha.1, Turn.only h.only ha.2 h.own, fun k hk => by
    rcases hk with hk | hk
    · exact h.own k hk
    · exact Nat.le_trans h.only.size hk.1⟩
theorem Own.new {w0 : World} {p' : PD} {fs' : Nat → FD} {ids' : Nat → Prop} (ho : Only [] w0 w) (ha : After w (fun _ => False) d p' fs' ids' w') : Own w0 w' (grow (fun _ => False) w w') d p' fs' ids' :=
  ⟨ha.1, Turn.only ho ha.2 (fun _ h => h.elim), fun k hk => by
    rcases hk with hk | hk
    · exact hk.elim
    · exact Nat.le_trans ho.size hk.1⟩
theorem calm_nil {p : PD} (h : p.faults = []) : p.calm := by
  intro x hx
  rw [h] at hx
  cases hx
theorem Off.fresh {w : World} {v : Value} {n : Nat} (h0 : DK w F d p fs ids) (h : ∀ g, v.ownBlock = some g → w.heap.size ≤ g) : Off F v n := fun _ g hg hF => by
  have h1 := h0.2 g hF
  have h2 := h g hg
  omega
set_option maxRecDepth 100000 in
set_option maxHeartbeats 6400000 in
theorem begun_ok (w : World) : Calls Try.prog 6 #[] w fun e w' => e = .returned (.bool true) ∧ Only [] w w' := by
  have kc := fun (w : World) (C : Array Value) (n c : Nat) => Lib.run_convert_bytes_const (P := Try.prog) w 29 5 C n c Try.underlying29 Try.underlying5
  go_enter Try.func6, Try.ntmps6
  go_wp2_with fail
  refine (new_ok w 100 (by decide) (by decide)).mono ?_
  rintro e w1 ⟨rfl, ha⟩
  obtain ⟨d, hd⟩ : ∃ d, w.heap.size + 2 = d := ⟨_, rfl⟩
  rw [hd] at ha ⊢
  have H1 := Lib.hid (Own.new (Only.refl [] w) ha)
  clear ha hd
  go_wp2_with fail
  refine (create_ok H1.out.dk (calm_nil rfl) (by decide) [97]).mono ?_
  rintro e w2 ⟨f, hf, rfl, ha⟩
  rw [bg_create] at ha ⊢
  have H2 := Lib.hid (H1.out.step ha)
  rw [show fsN (fun _ => ⟨[], [], 0⟩) f true = bf0 f from rfl] at H2
  clear ha hf H1
  go_wp2_with fail
  refine (syncdir_ok H2.out.dk (calm_nil rfl) (show (1 : Nat) ≤ 1048576 by decide)).mono ?_
  rintro e w3 ⟨rfl, ha⟩
  rw [bg_sdir] at ha ⊢
  have H3 := Lib.hid (H2.out.step ha)
  clear ha H2
  generalize grow (grow (grow (fun _ => False) w w1) w1 w2) w2 w3 = F3 at H3
  have HA3 := Lib.hid ((Only.refl [] w3).alloc (.cells #[.int .u8 97, .int .u8 98, .int .u8 99] 5 (3, 4)))
  have HS3 := Lib.hid (sr_by (w := w3) (mk := (3, 4)) (l := abc) (cs := #[.int .u8 97, .int .u8 98, .int .u8 99]) rfl (by decide))
  have HN3 := Lib.hid (Off.fresh (v := .slice (some ⟨w3.heap.size, 0, none⟩) 3 3) (n := 3) H3.out.dk (fun g hg => by injection hg with hg; exact Nat.le_of_eq hg))
  have HH3 := Lib.hid (H3.out.quiet HA3.out)
  go_wp2_with fail
  refine (append_ok HH3.out.dk (calm_nil rfl) [97] (data := abc) HS3.out HN3.out (by decide)).mono ?_
  rintro e w4 ⟨rfl, ha⟩
  rw [bg_append] at ha ⊢
  have H4 := Lib.hid (HH3.out.step ha)
  clear ha H3 HH3 HA3 HS3 HN3
  dsimp only at H4 ⊢
  generalize grow F3 (w3.alloc (.cells #[.int .u8 97, .int .u8 98, .int .u8 99] 5 (3, 4))) w4 = F4 at H4
  go_wp2_with fail
  refine (tails_ok H4.out.dk (show (0 : Nat) ≤ 1048576 by decide) 0).mono ?_
  rintro e w5 ⟨v5, rfl, hs5, ho5, hw5⟩
  rw [bg_after, bg_tcs] at hs5
  change Sl w5 77 2 v5 1 [sk [97], iv 3] at hs5
  have H5 := Lib.hid (H4.out.quiet ho5)
  have HS5 := Lib.hid hs5
  have HN5 := Lib.hid (Off.fresh (n := 1) H4.out.dk hw5)
  obtain ⟨a5, c5, hv5, _, _⟩ := hs5.shape
  subst hv5
  clear hs5 ho5 hw5 H4
  have HO5 := Lib.hid (((Only.refl [] w5).alloc (.cells #[.int .u8 120, .int .u8 121, .int .u8 122] 5 (3, 4))).alloc (.cells #[iv 1, .slice (some ⟨w5.heap.size, 0, none⟩) 3 3] 75))
  have HJ5 := Lib.hid ((sr_by (w := w5) (mk := (3, 4)) (l := xyz) (cs := #[.int .u8 120, .int .u8 121, .int .u8 122]) rfl (by decide)).only0 ((Only.refl [] _).alloc (.cells #[iv 1, .slice (some ⟨w5.heap.size, 0, none⟩) 3 3] 75)))
  have HK5 := Lib.hid (show KS ((w5.alloc (.cells #[.int .u8 120, .int .u8 121, .int .u8 122] 5 (3, 4))).alloc (.cells #[iv 1, .slice (some ⟨w5.heap.size, 0, none⟩) 3 3] 75)) (.slice (some ⟨w5.heap.size + 1, 0, none⟩) 1 1) [(1, .slice (some ⟨w5.heap.size, 0, none⟩) 3 3, xyz)] from
    ⟨by
      have := sl_new (n := 1) (size := 2) (Blk.new (w5.alloc (.cells #[.int .u8 120, .int .u8 121, .int .u8 122] 5 (3, 4))) 75 #[iv 1, .slice (some ⟨w5.heap.size, 0, none⟩) 3 3]) rfl (by decide)
      simpa [kcs] using this.sr, fun x hx => by
      rw [List.mem_singleton.1 hx]
      exact HJ5.out⟩)
  have HKO := Lib.hid (show KOff F4 (.slice (some ⟨w5.heap.size + 1, 0, none⟩) 1 1) [(1, .slice (some ⟨w5.heap.size, 0, none⟩) 3 3, xyz)] from
    ⟨Off.fresh H5.out.dk (fun g hg => by
      injection hg with hg
      have : w5.heap.size + 1 = g := hg
      omega), fun x hx => by
      rw [List.mem_singleton.1 hx]
      exact Off.fresh H5.out.dk (fun g hg => by
        injection hg with hg
        exact Nat.le_of_eq hg)⟩)
  go_wp2_with fail
  refine (crash_ok (H5.out.quiet HO5.out).dk (show (0 : Nat) ≤ 1048576 by decide) 0 HK5.out HKO.out).mono ?_
  rintro e w6 ⟨rfl, D, fs', ids', ha, hview, _, _⟩
  rw [bg_after, bg_crash] at hview
  obtain ⟨g, rfl, hg⟩ := view_one hview
  have HG := Lib.hid hg
  have H6 := Lib.hid ((H5.out.quiet HO5.out).step ha)
  have HS6 := Lib.hid (Go.Proofs.Ythekilgolelomaa.Sl.turn (HS5.out.only HO5.out (by simp)) ha.2 (HN5.out (by decide)))
  clear ha hview hg H5 HO5 HJ5 HK5 HKO HS5 HN5
  generalize grow F4 ((w5.alloc (.cells #[.int .u8 120, .int .u8 121, .int .u8 122] 5 (3, 4))).alloc (.cells #[iv 1, .slice (some ⟨w5.heap.size, 0, none⟩) 3 3] 75)) w6 = F6 at H6
  go_wp2_with fail
  refine (read_ok H6.out.dk [97] 0 3).mono ?_
  rw [bg_read HG.out]
  rintro e w7 ⟨v7, rfl, hs7, ho7, hw7⟩
  have H7 := Lib.hid (H6.out.quiet ho7)
  have HS7 := Lib.hid (HS6.out.only ho7 (by simp))
  obtain ⟨g5, o5, c5', hv, hfm⟩ := HS7.out.form (by decide)
  injection hv with hva _ hvc
  subst hva
  subst hvc
  clear hfm
  have y1 := HS7.out.cells_ 1 (iv 3) rfl
  rw [Addr.add_lit] at y1
  have hcv := conv_by hs7
  have hup := up_ok H7.out.dk
  obtain ⟨a7, c7, hv7, _, _⟩ := hs7.shape
  subst hv7
  have HUP := Lib.hid hup
  have HNO := Lib.hid (new_no w7 (-1) (.inl (by decide)))
  clear hs7 ho7 hw7 HS6 H6 HS7 hup
  go_wp2_with fail
  refine HUP.out.mono ?_
  rintro e w8 ⟨rfl, rfl⟩
  rw [show ((bg3 f).crash [([97], g)]).up = true from rfl]
  go_wp2_with fail
  refine HNO.out.mono ?_
  rintro e w9 ⟨rfl, ho9⟩
  have HE := Lib.hid (H7.out.only.trans ho9)
  clear ho9 y1 hcv
  go_wp2
  exact bodyPost_ret (results_tmp rfl _ _ _) rfl ⟨rfl, HE.out⟩
end
end Go.Proofs.Ythekilgolelomaa
