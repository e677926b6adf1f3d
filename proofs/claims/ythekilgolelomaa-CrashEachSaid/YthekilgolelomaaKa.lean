/-
  The disk: Cut.
-/
import Derived.Test.YthekilgolelomaaDr
set_option linter.unusedSimpArgs false
set_option linter.unusedVariables false
namespace Go.Proofs.Ythekilgolelomaa
open Go.RowKit Go.Fl

/-- A file that is cut. -/
def FD.cut (f : FD) (n : Nat) : FD := ⟨f.b.take n, f.lasts.take n, min f.marked n⟩
def PD.cut (p : PD) (fs : Nat → FD) (s : Nm) (n : Int) : Int × PD × (Nat → FD) := match findR p s with
  | (none, e) => (e, p, fs)
  | (some f, _) => if n < 0 ∨ ((fs f).b.length : Int) < n then (8, p, fs)
    else if (p.op .cu).flt.2.1 = 0 ∨ (p.op .cu).flt.2.1 = 2 then (0, p.op .cu, upd fs f ((fs f).cut n.toNat))
    else (befR (p.op .cu).flt, (p.op .cu).bef (p.op .cu).flt, fs)
section
variable {w w' : World} {F G : Nat → Prop} {d : Nat} {p p' : PD} {fs : Nat → FD} {ids : Nat → Prop} {nb lb : Nat} {pv fv pv' fv' bv lv : Value}
/-- A front of a slice that is owned, its room cut. -/
theorem Sl.cut2 {l : List UInt8} {v : Value} (h : Sl w 5 1 v l.length (byV l)) {n : Nat} (hn : n ≤ l.length) : ∃ a c, v = .slice a l.length c ∧ l.length ≤ c ∧ Sl w 5 1 (.slice a n n) n (byV (l.take n)) ∧ (a = none → c = 0) := by
  rcases h.2 with ⟨rfl, h0⟩ | ⟨g, off, cap, cur, rfl, hh, hc, hm, hs, ht⟩
  · obtain rfl : n = 0 := by omega
    exact ⟨none, 0, by rw [h0], by omega, by simpa [byV] using Sl.nil w 5 1, fun _ => rfl⟩
  · refine ⟨_, cap, rfl, hc, ?_, fun e => by cases e⟩
    have := Sl.front h hn (Nat.le_refl n) (by omega)
    unfold byV at this ⊢
    rw [List.map_take]
    simpa using this
theorem cut_end {i : Nat} {f : FD} (h : FM w i f bv lv) {n : Nat} (hn : n ≤ f.b.length) {b' l' : Value} (hb : Sl w 5 1 b' n (byV (f.b.take n))) (hl : Sl w 5 1 l' (f.lasts.take n).length (byV (f.lasts.take n)))
    (ob : ∀ g, b'.ownBlock = some g → bv.ownBlock = some g) (ol : ∀ g, l'.ownBlock = some g → lv.ownBlock = some g) {m : Int} (hm : m = ((min f.marked n : Nat) : Int)) (ho : Only [i] w w') (hk : Blk w' i 87 #[b', l', iv m]) :
    ∃ b' l', FM w' i (f.cut n) b' l' ∧ Only [i] w w' ∧ (∀ g, b'.ownBlock = some g → bv.ownBlock = some g) ∧ ∀ g, l'.ownBlock = some g → lv.ownBlock = some g := by
  have nl : lv.ownBlock ≠ some i := fun e => by
    obtain ⟨cur, hc⟩ := Go.Proofs.Ythekilgolelomaa.Sl.blk h.l e
    exact Blk.ne_ hc h.blk (by decide) rfl
  have nb : bv.ownBlock ≠ some i := fun e => by
    obtain ⟨cur, hc⟩ := Go.Proofs.Ythekilgolelomaa.Sl.blk h.b e
    exact Blk.ne_ hc h.blk (by decide) rfl
  have e1 : (f.cut n).b.length = n := by show (f.b.take n).length = n; rw [List.length_take]; omega
  obtain ⟨k1, k2, k3⟩ := h.ok
  refine ⟨b', l', ⟨by rw [hm] at hk; exact hk, ?_, ?_, ?_⟩, ho, ob, ol⟩
  · rw [e1]
    exact hb.only ho fun g hg hm => nb (by rw [List.mem_singleton.1 hm] at hg; exact ob _ hg)
  · exact hl.only ho fun g hg hm => nl (by rw [List.mem_singleton.1 hm] at hg; exact ol _ hg)
  · refine ⟨?_, ?_, ?_⟩
    · rw [e1]
      show (f.lasts.take n).length ≤ n
      rw [List.length_take]; omega
    · rw [e1]
      show min f.marked n ≤ n
      omega
    · rw [e1]; omega
set_option maxRecDepth 100000 in
set_option maxHeartbeats 1600000 in
theorem cutf_ok {i : Nat} {f : FD} (h : FM w i f bv lv) {n : Nat} (hn : n ≤ f.b.length) : Calls Try.prog 45 #[fp i, iv n] w fun e w' =>
    e = .returned (.tuple #[]) ∧ ∃ b' l', FM w' i (f.cut n) b' l' ∧ Only [i] w w' ∧ (∀ g, b'.ownBlock = some g → bv.ownBlock = some g) ∧ ∀ g, l'.ownBlock = some g → lv.ownBlock = some g := by
  have H := Lib.hid h
  have HN := Lib.hid hn
  have x0 := h.blk.cell 0
  have x1 := h.blk.cell 1
  have x2 := h.blk.cell 2
  have xl := h.blk.lt
  have xf := h.blk.frozen
  simp at x0 x1 x2
  obtain ⟨ba, bc, hb, hnc, hbs, hbn⟩ := Sl.cut2 h.b hn
  rw [hb] at x0
  have hci : (n : Int) ≤ (bc : Int) := by omega
  have hlb := h.ok.1
  by_cases hl : n < f.lasts.length
  · obtain ⟨la, lc, hlv, hnl, hls, hln⟩ := Sl.cut2 h.l (Nat.le_of_lt hl)
    have hls2 : Sl w 5 1 (.slice la n n) (f.lasts.take n).length (byV (f.lasts.take n)) := by rw [List.length_take, Nat.min_eq_left (Nat.le_of_lt hl)]; exact hls
    rw [hlv] at x1
    have hli : (n : Int) < (f.lasts.length : Int) := by omega
    have hlc : (n : Int) ≤ (lc : Int) := by omega
    cases la with
    | none => have := hln rfl; omega
    | some la =>
      cases ba with
      | none => have := hbn rfl; omega
      | some ba =>
        clear h hn hnc hnl hl hls hlb hln hbn
        subst hb
        subst hlv
        go_enter Try.func45, Try.ntmps45
        go_wp2
        all_goals refine bodyPost_end (results_none rfl _ _ _) rfl ⟨rfl, ?_⟩
        all_goals first
          | (refine cut_end (m := (f.marked : Int)) H.out HN.out hbs hls2 (fun g hg => hg) (fun g hg => hg) ?_ ?_ ?_ <;> first | omega | ((repeat (first | with_reducible exact Only.refl _ _ | with_reducible exact Only.refl _ _ | with_reducible refine Only.drew ?_ | with_reducible refine Only.drewN ?_ _ | with_reducible refine Only.alloc ?_ _ | ((with_reducible refine Only.setCell ?_ ?_ _); rotate_left; (focus (first | (left; simp; done) | (right; simp; done) | (right; simp; omega) | (right; omega)))))); done) | ((repeat' (first | with_reducible exact H.out.blk | with_reducible apply Blk.drew | with_reducible apply Blk.drewN | with_reducible apply Blk.alloc | ((with_reducible apply Blk.far); rotate_left; (focus (simp <;> omega))) | with_reducible apply Blk.set' | with_reducible exact SetEq.rfl' | (simp [SetEq]; done) | (simp [SetEq]; omega))); done))
          | (refine cut_end (m := (n : Int)) H.out HN.out hbs hls2 (fun g hg => hg) (fun g hg => hg) ?_ ?_ ?_ <;> first | omega | ((repeat (first | with_reducible exact Only.refl _ _ | with_reducible exact Only.refl _ _ | with_reducible refine Only.drew ?_ | with_reducible refine Only.drewN ?_ _ | with_reducible refine Only.alloc ?_ _ | ((with_reducible refine Only.setCell ?_ ?_ _); rotate_left; (focus (first | (left; simp; done) | (right; simp; done) | (right; simp; omega) | (right; omega)))))); done) | ((repeat' (first | with_reducible exact H.out.blk | with_reducible apply Blk.drew | with_reducible apply Blk.drewN | with_reducible apply Blk.alloc | ((with_reducible apply Blk.far); rotate_left; (focus (simp <;> omega))) | with_reducible apply Blk.set' | with_reducible exact SetEq.rfl' | (simp [SetEq]; done) | (simp [SetEq]; omega))); done))
          | (refine cut_end (m := (0 : Int)) H.out HN.out hbs hls2 (fun g hg => hg) (fun g hg => hg) ?_ ?_ ?_ <;> first | omega | ((repeat (first | with_reducible exact Only.refl _ _ | with_reducible exact Only.refl _ _ | with_reducible refine Only.drew ?_ | with_reducible refine Only.drewN ?_ _ | with_reducible refine Only.alloc ?_ _ | ((with_reducible refine Only.setCell ?_ ?_ _); rotate_left; (focus (first | (left; simp; done) | (right; simp; done) | (right; simp; omega) | (right; omega)))))); done) | ((repeat' (first | with_reducible exact H.out.blk | with_reducible apply Blk.drew | with_reducible apply Blk.drewN | with_reducible apply Blk.alloc | ((with_reducible apply Blk.far); rotate_left; (focus (simp <;> omega))) | with_reducible apply Blk.set' | with_reducible exact SetEq.rfl' | (simp [SetEq]; done) | (simp [SetEq]; omega))); done))
  · have hls2 : Sl w 5 1 lv (f.lasts.take n).length (byV (f.lasts.take n)) := by rw [List.take_of_length_le (by omega)]; exact h.l
    obtain ⟨la, lc, hlv, _, _⟩ := h.l.shape
    rw [hlv] at x1
    have hli : ¬ (n : Int) < (f.lasts.length : Int) := by omega
    clear h hn hnc hl hlb
    subst hb
    subst hlv
    cases ba with
    | none =>
      have := hbn rfl
      subst this
      obtain rfl : n = 0 := by omega
      go_enter Try.func45, Try.ntmps45
      go_wp2
      all_goals refine bodyPost_end (results_none rfl _ _ _) rfl ⟨rfl, ?_⟩
      all_goals first
        | (refine cut_end (m := (f.marked : Int)) H.out HN.out hbs hls2 (fun g hg => hg) (fun g hg => hg) ?_ ?_ ?_ <;> first | omega | ((repeat (first | with_reducible exact Only.refl _ _ | with_reducible exact Only.refl _ _ | with_reducible refine Only.drew ?_ | with_reducible refine Only.drewN ?_ _ | with_reducible refine Only.alloc ?_ _ | ((with_reducible refine Only.setCell ?_ ?_ _); rotate_left; (focus (first | (left; simp; done) | (right; simp; done) | (right; simp; omega) | (right; omega)))))); done) | ((repeat' (first | with_reducible exact H.out.blk | with_reducible apply Blk.drew | with_reducible apply Blk.drewN | with_reducible apply Blk.alloc | ((with_reducible apply Blk.far); rotate_left; (focus (simp <;> omega))) | with_reducible apply Blk.set' | with_reducible exact SetEq.rfl' | (simp [SetEq]; done) | (simp [SetEq]; omega))); done))
        | (refine cut_end (m := (n : Int)) H.out HN.out hbs hls2 (fun g hg => hg) (fun g hg => hg) ?_ ?_ ?_ <;> first | omega | ((repeat (first | with_reducible exact Only.refl _ _ | with_reducible exact Only.refl _ _ | with_reducible refine Only.drew ?_ | with_reducible refine Only.drewN ?_ _ | with_reducible refine Only.alloc ?_ _ | ((with_reducible refine Only.setCell ?_ ?_ _); rotate_left; (focus (first | (left; simp; done) | (right; simp; done) | (right; simp; omega) | (right; omega)))))); done) | ((repeat' (first | with_reducible exact H.out.blk | with_reducible apply Blk.drew | with_reducible apply Blk.drewN | with_reducible apply Blk.alloc | ((with_reducible apply Blk.far); rotate_left; (focus (simp <;> omega))) | with_reducible apply Blk.set' | with_reducible exact SetEq.rfl' | (simp [SetEq]; done) | (simp [SetEq]; omega))); done))
        | (refine cut_end (m := (0 : Int)) H.out HN.out hbs hls2 (fun g hg => hg) (fun g hg => hg) ?_ ?_ ?_ <;> first | omega | ((repeat (first | with_reducible exact Only.refl _ _ | with_reducible exact Only.refl _ _ | with_reducible refine Only.drew ?_ | with_reducible refine Only.drewN ?_ _ | with_reducible refine Only.alloc ?_ _ | ((with_reducible refine Only.setCell ?_ ?_ _); rotate_left; (focus (first | (left; simp; done) | (right; simp; done) | (right; simp; omega) | (right; omega)))))); done) | ((repeat' (first | with_reducible exact H.out.blk | with_reducible apply Blk.drew | with_reducible apply Blk.drewN | with_reducible apply Blk.alloc | ((with_reducible apply Blk.far); rotate_left; (focus (simp <;> omega))) | with_reducible apply Blk.set' | with_reducible exact SetEq.rfl' | (simp [SetEq]; done) | (simp [SetEq]; omega))); done))
    | some ba =>
      clear hbn
      go_enter Try.func45, Try.ntmps45
      go_wp2
      all_goals refine bodyPost_end (results_none rfl _ _ _) rfl ⟨rfl, ?_⟩
      all_goals first
        | (refine cut_end (m := (f.marked : Int)) H.out HN.out hbs hls2 (fun g hg => hg) (fun g hg => hg) ?_ ?_ ?_ <;> first | omega | ((repeat (first | with_reducible exact Only.refl _ _ | with_reducible exact Only.refl _ _ | with_reducible refine Only.drew ?_ | with_reducible refine Only.drewN ?_ _ | with_reducible refine Only.alloc ?_ _ | ((with_reducible refine Only.setCell ?_ ?_ _); rotate_left; (focus (first | (left; simp; done) | (right; simp; done) | (right; simp; omega) | (right; omega)))))); done) | ((repeat' (first | with_reducible exact H.out.blk | with_reducible apply Blk.drew | with_reducible apply Blk.drewN | with_reducible apply Blk.alloc | ((with_reducible apply Blk.far); rotate_left; (focus (simp <;> omega))) | with_reducible apply Blk.set' | with_reducible exact SetEq.rfl' | (simp [SetEq]; done) | (simp [SetEq]; omega))); done))
        | (refine cut_end (m := (n : Int)) H.out HN.out hbs hls2 (fun g hg => hg) (fun g hg => hg) ?_ ?_ ?_ <;> first | omega | ((repeat (first | with_reducible exact Only.refl _ _ | with_reducible exact Only.refl _ _ | with_reducible refine Only.drew ?_ | with_reducible refine Only.drewN ?_ _ | with_reducible refine Only.alloc ?_ _ | ((with_reducible refine Only.setCell ?_ ?_ _); rotate_left; (focus (first | (left; simp; done) | (right; simp; done) | (right; simp; omega) | (right; omega)))))); done) | ((repeat' (first | with_reducible exact H.out.blk | with_reducible apply Blk.drew | with_reducible apply Blk.drewN | with_reducible apply Blk.alloc | ((with_reducible apply Blk.far); rotate_left; (focus (simp <;> omega))) | with_reducible apply Blk.set' | with_reducible exact SetEq.rfl' | (simp [SetEq]; done) | (simp [SetEq]; omega))); done))
        | (refine cut_end (m := (0 : Int)) H.out HN.out hbs hls2 (fun g hg => hg) (fun g hg => hg) ?_ ?_ ?_ <;> first | omega | ((repeat (first | with_reducible exact Only.refl _ _ | with_reducible exact Only.refl _ _ | with_reducible refine Only.drew ?_ | with_reducible refine Only.drewN ?_ _ | with_reducible refine Only.alloc ?_ _ | ((with_reducible refine Only.setCell ?_ ?_ _); rotate_left; (focus (first | (left; simp; done) | (right; simp; done) | (right; simp; omega) | (right; omega)))))); done) | ((repeat' (first | with_reducible exact H.out.blk | with_reducible apply Blk.drew | with_reducible apply Blk.drewN | with_reducible apply Blk.alloc | ((with_reducible apply Blk.far); rotate_left; (focus (simp <;> omega))) | with_reducible apply Blk.set' | with_reducible exact SetEq.rfl' | (simp [SetEq]; done) | (simp [SetEq]; omega))); done))
end
section
variable {w w' : World} {F G : Nat → Prop} {d : Nat} {p p' : PD} {fs : Nat → FD} {ids : Nat → Prop} {nb lb : Nat} {pv fv pv' fv' : Value} {bv lv : Nat → Value}
theorem cutf_dk (h0 : DK w F d p fs ids) {f : Nat} (hi : ids f) {n : Nat} (hn : n ≤ (fs f).b.length) : Calls Try.prog 45 #[fp f, iv n] w fun e w' => e = .returned (.tuple #[]) ∧ After w F d p (upd fs f ((fs f).cut n)) ids w' := by
  obtain ⟨⟨nb, lb, pv, fv, bv, lv, h⟩, hF⟩ := h0
  refine (cutf_ok (h.fs.file f hi) hn).mono ?_
  rintro e w' ⟨rfl, b', l', hf, ho, hb, hl⟩
  exact ⟨rfl, After.file h hF hi (b' := b') (l' := l') ho (fun k hk => .inl (by simpa using hk)) hf (fun g hg => .inl (hb g hg)) (fun g hg => .inl (hl g hg)) (fun g hg hl2 => h.fs.s1 f f g hi hi (hb g hg) (hl g hl2))⟩
/-- Where a file's bytes lie. -/
theorem file_len (h0 : DK w F d p fs ids) {f : Nat} (hi : ids f) : (∃ a c, w.cell? ⟨f, 0, none⟩ = some (.slice a (fs f).b.length c)) ∧ f < w.heap.size ∧ (fs f).b.length ≤ 1073741824 := by
  obtain ⟨⟨nb, lb, pv, fv, bv, lv, h⟩, hF⟩ := h0
  have hf := h.fs.file f hi
  obtain ⟨a, c, hb, _, _⟩ := hf.b.shape
  refine ⟨⟨a, c, ?_⟩, hf.blk.lt, hf.ok.2.2⟩
  have := hf.blk.cell 0
  rw [← hb]
  simpa using this
set_option maxRecDepth 100000 in
set_option maxHeartbeats 3200000 in
theorem cut_some (h0 : DK w F d p fs ids) (hc : p.calm) {s : Nm} {f : Nat} (hf : findR p s = (some f, 0)) (hi : ids f) (n : Int) : Calls Try.prog 22 #[cp d, sk s, iv n] w fun e w' =>
    e = .returned (iv (p.cut fs s n).1) ∧ After w F d (p.cut fs s n).2.1 (p.cut fs s n).2.2 ids w' := by
  have HFI := Lib.hid (find_dk h0 s)
  have HOP := Lib.hid (opd_cu h0)
  have HC := Lib.hid (hc.op .cu)
  have HID := Lib.hid hi
  have HSA := Lib.hid (After.same h0)
  have xl := h0.lt
  obtain ⟨⟨ba, bc, y0⟩, y1, hL⟩ := file_len h0 hi
  unfold PD.cut
  rw [hf] at HFI ⊢
  dsimp only [optP] at HFI ⊢
  by_cases hn : n < 0
  · have hif : n < 0 ∨ ((fs f).b.length : Int) < n := .inl hn
    simp only [hif, if_true]
    clear hif h0 hc hf hi hL HOP HC
    go_enter Try.func22, Try.ntmps22
    go_wp2_with fail
    refine HFI.out.mono ?_
    rintro e w1 ⟨rfl, rfl⟩
    clear HFI
    go_wp2
    exact bodyPost_ret (results_tmp rfl _ _ _) rfl ⟨rfl, HSA.out⟩
  by_cases hn2 : ((fs f).b.length : Int) < n
  · have hif : n < 0 ∨ ((fs f).b.length : Int) < n := .inr hn2
    simp only [hif, if_true]
    clear hif h0 hc hf hi hL HOP HC
    go_enter Try.func22, Try.ntmps22
    go_wp2_with fail
    refine HFI.out.mono ?_
    rintro e w1 ⟨rfl, rfl⟩
    clear HFI
    go_wp2
    exact bodyPost_ret (results_tmp rfl _ _ _) rfl ⟨rfl, HSA.out⟩
  have hif : ¬ (n < 0 ∨ ((fs f).b.length : Int) < n) := by omega
  simp only [hif, if_false]
  have HNL := Lib.hid (show n.toNat ≤ (fs f).b.length by omega)
  obtain ⟨k, hk⟩ : ∃ k : Nat, n = k := ⟨n.toNat, by omega⟩
  subst hk
  rw [Int.toNat_natCast] at HNL ⊢
  have hsz : decide ((k : Int) < 0) = false := decide_eq_false hn
  have hsz2 : decide ((fs f).b.length < k) = false := decide_eq_false (by omega)
  clear h0 hc hf hi hL hn hn2 hif HSA
  generalize (p.op .cu).flt = x at HOP HC ⊢
  obtain ⟨xa, xk, xp⟩ := x
  unfold fltV at HOP
  dsimp only at HOP HC ⊢
  by_cases h1 : xk = 0
  · subst h1
    simp only [true_or, if_true]
    go_enter Try.func22, Try.ntmps22
    go_wp2_with fail
    refine HFI.out.mono ?_
    rintro e w1 ⟨rfl, rfl⟩
    clear HFI
    go_wp2_with fail
    refine HOP.out.mono ?_
    rintro e w2 ⟨rfl, ha⟩
    have HA := Lib.hid ha
    clear HOP ha xl y0 y1 hsz hsz2
    go_wp2_with (refine wpList_store_blk (g := w2.heap.size) (k := 0) rfl 83 (.tmp 9) (.tmp 37) rfl [iv xa, iv 0, iv xp] rfl rfl (Blk.new w2 83 #[iv 0, iv 0, iv 0]) (by kernel_rfl) (by simp) (by simp [Value.oneCell']) ?_)
    intro w3 hB hO
    have HB3 := Lib.hid (show Blk w3 w2.heap.size 83 #[iv xa, iv 0, iv xp] by simpa using hB)
    have HO3 := Lib.hid (only_new hO)
    have HD3 := Lib.hid (HA.out.1.only0 HO3.out)
    clear hB hO
    generalize hxb : w2.heap.size = xb at HB3 ⊢
    clear hxb
    have x0 := HB3.out.cell 0
    have x1 := HB3.out.cell 1
    have x2 := HB3.out.cell 2
    have xlb := HB3.out.lt
    simp at x0 x1 x2
    have HCU := Lib.hid (cutf_dk HD3.out HID.out HNL.out)
    go_wp2_with fail
    refine HCU.out.mono ?_
    rintro e w4 ⟨rfl, ha4⟩
    have HE := Lib.hid (HA.out.trans (After.quiet_then HO3.out ha4))
    clear ha4 HCU x0 x1 x2 xlb
    go_wp2
    exact bodyPost_ret (results_tmp rfl _ _ _) rfl ⟨rfl, HE.out⟩
  by_cases h2 : xk = 2
  · subst h2
    simp only [or_true, if_true]
    go_enter Try.func22, Try.ntmps22
    go_wp2_with fail
    refine HFI.out.mono ?_
    rintro e w1 ⟨rfl, rfl⟩
    clear HFI
    go_wp2_with fail
    refine HOP.out.mono ?_
    rintro e w2 ⟨rfl, ha⟩
    have HA := Lib.hid ha
    clear HOP ha xl y0 y1 hsz hsz2
    go_wp2_with (refine wpList_store_blk (g := w2.heap.size) (k := 0) rfl 83 (.tmp 9) (.tmp 37) rfl [iv xa, iv 2, iv xp] rfl rfl (Blk.new w2 83 #[iv 0, iv 0, iv 0]) (by kernel_rfl) (by simp) (by simp [Value.oneCell']) ?_)
    intro w3 hB hO
    have HB3 := Lib.hid (show Blk w3 w2.heap.size 83 #[iv xa, iv 2, iv xp] by simpa using hB)
    have HO3 := Lib.hid (only_new hO)
    have HD3 := Lib.hid (HA.out.1.only0 HO3.out)
    clear hB hO
    generalize hxb : w2.heap.size = xb at HB3 ⊢
    clear hxb
    have x0 := HB3.out.cell 0
    have x1 := HB3.out.cell 1
    have x2 := HB3.out.cell 2
    have xlb := HB3.out.lt
    simp at x0 x1 x2
    have HCU := Lib.hid (cutf_dk HD3.out HID.out HNL.out)
    go_wp2_with fail
    refine HCU.out.mono ?_
    rintro e w4 ⟨rfl, ha4⟩
    have HE := Lib.hid (HA.out.trans (After.quiet_then HO3.out ha4))
    clear ha4 HCU x0 x1 x2 xlb
    go_wp2
    exact bodyPost_ret (results_tmp rfl _ _ _) rfl ⟨rfl, HE.out⟩
  have hif : ¬ (xk = 0 ∨ xk = 2) := fun h => h.elim h1 h2
  simp only [hif, if_false]
  have k1 : (xk != 0) = true := by simpa using h1
  have k2 : (xk != 2) = true := by simpa using h2
  clear h1 h2 hif
  go_enter Try.func22, Try.ntmps22
  go_wp2_with fail
  refine HFI.out.mono ?_
  rintro e w1 ⟨rfl, rfl⟩
  clear HFI
  go_wp2_with fail
  refine HOP.out.mono ?_
  rintro e w2 ⟨rfl, ha⟩
  have HA := Lib.hid ha
  clear HOP ha xl y0 y1 hsz hsz2
  go_wp2_with (refine wpList_store_blk (g := w2.heap.size) (k := 0) rfl 83 (.tmp 9) (.tmp 37) rfl [iv xa, iv xk, iv xp] rfl rfl (Blk.new w2 83 #[iv 0, iv 0, iv 0]) (by kernel_rfl) (by simp) (by simp [Value.oneCell']) ?_)
  intro w3 hB hO
  have HB3 := Lib.hid (show Blk w3 w2.heap.size 83 #[iv xa, iv xk, iv xp] by simpa using hB)
  have HO3 := Lib.hid (only_new hO)
  have HD3 := Lib.hid (HA.out.1.only0 HO3.out)
  clear hB hO
  generalize hxb : w2.heap.size = xb at HB3 ⊢
  clear hxb
  have x0 := HB3.out.cell 0
  have x1 := HB3.out.cell 1
  have x2 := HB3.out.cell 2
  have xlb := HB3.out.lt
  simp at x0 x1 x2
  have HBF := Lib.hid (befall_dk HD3.out (xa, xk, xp) HC.out)
  unfold fltV at HBF
  dsimp only at HBF
  go_wp2_with fail
  refine HBF.out.mono ?_
  rintro e w4 ⟨rfl, ha4⟩
  have HE := Lib.hid (HA.out.trans (After.quiet_then HO3.out ha4))
  clear ha4 HBF x0 x1 x2 xlb
  go_wp2
  exact bodyPost_ret (results_tmp rfl _ _ _) rfl ⟨rfl, HE.out⟩
set_option maxRecDepth 100000 in
theorem cut_none (h0 : DK w F d p fs ids) {s : Nm} {e : Int} (hf : findR p s = (none, e)) (he : e ≠ 0) (n : Int) : Calls Try.prog 22 #[cp d, sk s, iv n] w fun e' w' => e' = .returned (iv e) ∧ w' = w := by
  have HFI := Lib.hid (find_dk h0 s)
  rw [hf] at HFI
  dsimp only [optP] at HFI
  have k0 : (e != 0) = true := by simpa using he
  clear h0 hf he
  go_enter Try.func22, Try.ntmps22
  go_wp2_with fail
  refine HFI.out.mono ?_
  rintro e w1 ⟨rfl, rfl⟩
  clear HFI
  go_wp2
  exact bodyPost_ret (results_tmp rfl _ _ _) rfl ⟨rfl, rfl⟩
theorem cut_ok (h0 : DK w F d p fs ids) (hc : p.calm) (s : Nm) (n : Int) : Calls Try.prog 22 #[cp d, sk s, iv n] w fun e w' =>
    e = .returned (iv (p.cut fs s n).1) ∧ After w F d (p.cut fs s n).2.1 (p.cut fs s n).2.2 ids w' := by
  rcases find_split h0 s with ⟨f, hf, _, hi⟩ | ⟨e, hf, he⟩
  · exact cut_some h0 hc hf hi n
  · refine (cut_none h0 hf he n).mono ?_
    rintro e' w' ⟨rfl, rfl⟩
    unfold PD.cut
    rw [hf]
    exact ⟨rfl, After.same h0⟩
end
end Go.Proofs.Ythekilgolelomaa
