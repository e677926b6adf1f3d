/-
  CrashEach: its walk.
-/
import Derived.Test.YthekilgolelomaaLf
set_option linter.unusedSimpArgs false
set_option linter.unusedVariables false
namespace Go.Proofs.Ythekilgolelomaa
open Go.RowKit Go.Fl

theorem ce_cap {A B : Nat} (hA : A ≤ 20) (hB : B ≤ 20) : 0 + A ≤ maxLen ∧ (0 + A) * 1 ≤ 140737488355328 ∧ A + B ≤ maxLen ∧ (A + B) * 1 ≤ 140737488355328 := by unfold maxLen; omega
theorem lge_z {m n : Nat} (h : m ≤ n) : ¬ (n : Int) < (m : Int) := by omega
theorem b20 {B : Nat} (h : B ≤ 20) : B + 1 ≤ 1048576 := by omega
theorem info_int : (Try.prog.info? 3).map (fun i => (i.zero, i.size, i.bytes)) = some (some (.int .i64 0), 1, 8) := by kernel_rfl
theorem make_ints (N : Nat) (hN : N ≤ 1048576) (u : World) : (Instr.makeSlice 50 (.int .i64 (N : Int)) (.int .i64 (N : Int))).run Try.prog u = .ok (.slice (some ⟨u.heap.size, 0, none⟩) N N) (u.alloc (.cells ((List.replicate N (0 : Nat)).map fun (x : Nat) => iv x).toArray 3)) := by
  obtain ⟨j4, si, sz0, sz1, sz2⟩ := info_parts info_int
  have h := run_make (P := Try.prog) u 50 3 j4 (.int .i64 0) Try.underlying50 si sz0 .i64 .i64 (N : Int) (N : Int) (by omega) (Int.le_refl _) (by rw [sz2]; omega) (by omega)
  rw [sz1, Int.toNat_natCast, Nat.mul_one] at h
  have e : madeCells (Value.int .i64 0).cells N = ((List.replicate N (0 : Nat)).map fun (x : Nat) => iv x).toArray := by
    apply Array.ext'
    show (madeCells #[.int .i64 0] N).toList = _
    rw [toList_madeCells_one, List.map_replicate]
    rfl
  rw [e] at h
  exact h
section
variable {w wr w' : World} {d : Nat} {m : Int} {now last : Dir} {pend : List Chg} {fs : Nat → FD} {s : Nm} {f fa fb : Nat} {a b c : List UInt8}
theorem dk_far {w0 wx : World} {F : Nat → Prop} {p : PD} {ids : Nat → Prop} {sb : Nat} (h : Own w0 wr F d p fs ids) (ho : Only [sb] wr wx) (hs : sb < w0.heap.size) : DK wx F d p fs ids :=
  DK.turn h.dk (Turn.of (F := (· = sb)) ho fun i hi => .inl (List.mem_singleton.1 hi)) fun k hk e => by
    have := h.own k hk
    omega
theorem oc_size_far {wx : World} {sb : Nat} (h : OC w wr d m now last pend fs) (ho : Only [sb] wr wx) (hsb : sb < w.heap.size) (hs : mayB s = true) (hf : now.get s = some f) : Calls Try.prog 19 #[cp d, sk s] wx fun e w' => e = .returned (.tuple #[iv (fs f).b.length, iv 0]) ∧ w' = wx := by
  obtain ⟨F, p, ids, h1, h2⟩ := h
  have := size_ok (dk_far h1 ho hsb) s
  rw [h2.size hs hf] at this
  exact this
theorem oc_size_none {wx : World} {sb : Nat} (h : OC w wr d m now last pend fs) (ho : Only [sb] wr wx) (hsb : sb < w.heap.size) (hs : mayB s = true) (hf : now.get s = none) : Calls Try.prog 19 #[cp d, sk s] wx fun e w' => e = .returned (.tuple #[iv 0, iv 6]) ∧ w' = wx := by
  obtain ⟨F, p, ids, h1, h2⟩ := h
  have := size_ok (dk_far h1 ho hsb) s
  unfold PD.size at this
  rw [h2.find hs, hf] at this
  exact this
/-- A disk without faults, and a block beside it. -/
def OC1 (w wr : World) (d : Nat) (m : Int) (now last : Dir) (pend : List Chg) (fs : Nat → FD) (sb : Nat) : Prop := ∃ F p ids, Own w wr F d p fs ids ∧ CS p m now last pend ∧ ¬ F sb ∧ w.heap.size ≤ sb
theorem OC1.oc {sb : Nat} (h : OC1 w wr d m now last pend fs sb) : OC w wr d m now last pend fs := by
  obtain ⟨F, p, ids, h1, h2, _⟩ := h
  exact ⟨F, p, ids, h1, h2⟩
theorem OC1.quiet {sb : Nat} (h : OC1 w wr d m now last pend fs sb) (ho : Only [] wr w') : OC1 w w' d m now last pend fs sb := by
  obtain ⟨F, p, ids, h1, h2, h3, h4⟩ := h
  exact ⟨F, p, ids, h1.quiet ho, h2, h3, h4⟩
theorem OC1.turn {sb : Nat} (h : OC1 w wr d m now last pend fs sb) (ho : Only [sb] wr w') : OC1 w w' d m now last pend fs sb := by
  obtain ⟨F, p, ids, h1, h2, h3, h4⟩ := h
  refine ⟨F, p, ids, ⟨DK.turn h1.dk (Turn.of (F := (· = sb)) ho fun i hi => .inl (List.mem_singleton.1 hi)) fun k hk e => h3 (e ▸ hk), only_fresh h1.only ho h4, h1.own⟩, h2, h3, h4⟩
theorem OC.beside {sb : Nat} (h : OC w wr d m now last pend fs) (ho : Only [] wr w') (hs : wr.heap.size ≤ sb) : OC1 w w' d m now last pend fs sb := by
  obtain ⟨F, p, ids, h1, h2⟩ := h
  exact ⟨F, p, ids, h1.quiet ho, h2, fun hf => by have := h1.dk.2 sb hf; omega, Nat.le_trans h1.only.size hs⟩
/-- What CrashEach asks of a copy behind the i-th fate. -/
structure EachA (w' : World) (a b c : List UInt8) (i d' sb : Nat) : Prop where
  size : ∀ wx, Only [] w' wx → Calls Try.prog 19 #[cp d', sk [97]] wx fun e w2 => e = .returned (.tuple #[iv (a.length + kA b.length c.length i : Nat), iv 0]) ∧ w2 = wx
  read : ∀ wx, Only [] w' wx → Calls Try.prog 15 #[cp d', sk [97], iv 0, iv (a.length + kA b.length c.length i : Nat)] wx fun e w2 => ∃ v, e = .returned (.tuple #[v, iv 0]) ∧ Sr w2 1 v (a.length + kA b.length c.length i) (byV ((a ++ b).take (a.length + kA b.length c.length i))) ∧ Only [] wx w2
  sizen : ∃ (mm : Nat) (ee : Int), (∀ wx, Only [sb] w' wx → Calls Try.prog 19 #[cp d', sk [110]] wx fun e w2 => e = .returned (.tuple #[iv mm, iv ee]) ∧ w2 = wx) ∧ ((ee = 0 ∧ b.length < i ∧ mm ≤ c.length) ∨ (ee = 6 ∧ ¬ b.length < i))
theorem each_make {D : Dir} {fs2 : Nat → FD} {d' g : Nat} (h : OC w w' d' m D D [] fs2) (hg : D.get [97] = some g) {k : Nat} (hk : k ≤ b.length) (hf : fs2 g = FD.flat (a ++ b.take k)) :
    (∀ wx, Only [] w' wx → Calls Try.prog 19 #[cp d', sk [97]] wx fun e w2 => e = .returned (.tuple #[iv (a.length + k : Nat), iv 0]) ∧ w2 = wx) ∧
    ∀ wx, Only [] w' wx → Calls Try.prog 15 #[cp d', sk [97], iv 0, iv (a.length + k : Nat)] wx fun e w2 => ∃ v, e = .returned (.tuple #[v, iv 0]) ∧ Sr w2 1 v (a.length + k) (byV ((a ++ b).take (a.length + k))) ∧ Only [] wx w2 := by
  have hb : (fs2 g).b = a ++ b.take k := by rw [hf]; rfl
  have hl : (fs2 g).b.length = a.length + k := by rw [hb, List.length_append, List.length_take]; omega
  have ht : (a ++ b).take (a.length + k) = a ++ b.take k := by rw [List.take_length_add_append]
  refine ⟨fun wx ho => ?_, fun wx ho => ?_⟩
  · have := oc_size (h.quiet ho) (s := [97]) rfl hg
    rw [hl] at this
    exact this
  · refine (oc_read (h.quiet ho) (s := [97]) rfl hg (o := 0) (n := a.length + k) (by omega)).mono ?_
    rintro e w2 ⟨v, rfl, hs, ho2, _⟩
    rw [hb, List.drop_zero, List.take_of_length_le (by rw [← hb, hl]; exact Nat.le_refl _)] at hs
    refine ⟨v, rfl, ?_, ho2⟩
    rw [ht]
    exact hs.sr
theorem each_after (h : OC w wr d 4096 [([97], fa), ([110], fb)] [([97], fa)] [.cr [110] fb] fs) (ha : fs fa = ⟨a ++ b, a, 0⟩) (hb : fs fb = ⟨c, [], 0⟩) (hB : b.length ≤ 20) (hC : c.length ≤ 20) {i : Nat} (hi : i < (b.length + 1) * (c.length + 2)) {sb : Nat} (hsb : sb < wr.heap.size) :
    Calls Try.prog 18 #[cp d, iv i] wr fun e w' => ∃ d', e = .returned (.tuple #[cp d', iv 0]) ∧ Only [] wr w' ∧ EachA w' a b c i d' sb := by
  obtain ⟨t0, t1⟩ := ce_tm ha hb
  obtain ⟨u2, d0, d1⟩ := ce_up t0 t1 hB hC
  have hk : kA b.length c.length i ≤ b.length := Nat.le_of_lt_succ (kA_lt hi)
  by_cases hib : i < b.length + 1
  · obtain ⟨e1, e2⟩ := ce_at0 (C := c.length) t0 d0 hib
    refine (oc_after h (by simp) u2 i hi e1 e2).mono ?_
    rintro e w' ⟨d', rfl, ho, D, fs2, hoc, hv⟩
    obtain ⟨g, rfl, hg⟩ := ce_v0 ha hk hv
    obtain ⟨s1, s2⟩ := each_make hoc rfl hk hg
    exact ⟨d', rfl, ho, s1, s2, 0, 6, fun wx hx => oc_size_none hoc hx hsb rfl rfl, .inr ⟨rfl, by omega⟩⟩
  · obtain ⟨e1, e2⟩ := ce_at1 (C := c.length) t1 d0 d1 hib hi
    have hn : kN b.length c.length i ≤ c.length := by unfold kN; have := Nat.mod_lt (i - (b.length + 1)) (show c.length + 1 > 0 by omega); omega
    refine (oc_after h (by simp) u2 i hi e1 e2).mono ?_
    rintro e w' ⟨d', rfl, ho, D, fs2, hoc, hv⟩
    obtain ⟨g, j, rfl, hg, hj⟩ := ce_v1 ha hb hk hn hv
    obtain ⟨s1, s2⟩ := each_make hoc rfl hk hg
    have hjl : (fs2 j).b.length = kN b.length c.length i := by rw [hj]; show (c.take _).length = _; rw [List.length_take]; omega
    refine ⟨d', rfl, ho, s1, s2, kN b.length c.length i, 0, fun wx hx => ?_, .inl ⟨rfl, by omega, hn⟩⟩
    have := oc_size_far hoc hx hsb (s := [110]) rfl rfl
    rw [hjl] at this
    exact this
theorem each_cells {l : List UInt8} {ra ya : Option Addr} {rc yc L M j : Nat} (hr : Sr w 1 (.slice ra L rc) L (byV (l.take L))) (hs : Sl w 5 1 (.slice ya M yc) M (byV l)) (hm : l.length = M) (hl : L ≤ M) (hj : j < L) :
    ∃ g o g2 o2, ∃ x : UInt8, ra = some ⟨g, o, none⟩ ∧ ya = some ⟨g2, o2, none⟩ ∧ w.cell? ⟨g, o + j, none⟩ = some (.int .u8 x.toNat) ∧ w.cell? ⟨g2, o2 + j, none⟩ = some (.int .u8 x.toNat) := by
  obtain ⟨g, o, c', hv, _⟩ := hr.form (Nat.lt_of_le_of_lt (Nat.zero_le j) hj)
  injection hv with hva _ hvc
  subst hva
  subst hvc
  obtain ⟨g2, o2, c2, hv2, _⟩ := hs.form (by omega)
  injection hv2 with hva2 _ hvc2
  subst hva2
  subst hvc2
  have hx : l[j]? = some (l[j]'(by omega)) := List.getElem?_eq_getElem (by omega)
  have y1 := hr.cells_ j (.int .u8 (l[j]'(by omega)).toNat) (by unfold byV; rw [List.getElem?_map, List.getElem?_take, if_pos hj, hx]; rfl)
  have y2 := hs.cells_ j (.int .u8 (l[j]'(by omega)).toNat) (by unfold byV; rw [List.getElem?_map, hx]; rfl)
  rw [Addr.add_lit] at y1 y2
  exact ⟨g, o, g2, o2, _, rfl, rfl, y1, y2⟩
theorem seen_end {wx : World} {sb P B C j : Nat} (h : Blk wr sb 3 ((List.replicate (B + 1) (C + 2)).map fun (x : Nat) => iv x).toArray) (ho : Only [] wr wx) (hp : B + 1 = P) (hj : j < P) : wx.cell? ⟨sb, j, none⟩ = some (.int .i64 ((C : Int) + 2)) := by
  rw [(h.only ho (by simp)).cell j]
  simp [List.getElem?_replicate, hp, hj]
theorem seen_at {wx : World} {sb B C i K : Nat} (h : Blk wr sb 3 ((cnts B C i).map fun (x : Nat) => iv x).toArray) (ho : Only [] wr wx) (hi : i < (B + 1) * (C + 2)) (hk : kA B C i = K) : ∃ cv, cv ≤ i ∧ wx.cell? ⟨sb, K, none⟩ = some (.int .i64 (cv : Int)) ∧
    Blk (wx.setCell ⟨sb, K, none⟩ (.int .i64 ((cv : Int) + 1))) sb 3 ((cnts B C (i + 1)).map fun (x : Nat) => iv x).toArray := by
  have hkl : K < (cnts B C i).length := by rw [cnts_len, ← hk]; exact kA_lt hi
  have hb := h.only ho (by simp)
  refine ⟨(cnts B C i).getD K 0, ?_, ?_, ?_⟩
  · rw [List.getD_eq_getElem?_getD, List.getElem?_eq_getElem hkl, Option.getD_some, cnts_at hkl]
    exact Nat.le_trans List.countP_le_length (by simp)
  · rw [hb.cell K]
    simp [List.getD_eq_getElem?_getD, List.getElem?_eq_getElem hkl]
  · have h2 := hb.set_ K (.int .i64 (((cnts B C i).getD K 0 : Nat) + 1 : Int))
    have e : ((cnts B C (i + 1)).map fun (x : Nat) => iv x).toArray = ((cnts B C i).map fun (x : Nat) => iv x).toArray.setIfInBounds K (.int .i64 (((cnts B C i).getD K 0 : Nat) + 1 : Int)) := by
      rw [cnts_succ hi, hk, List.map_set]
      simp
    rw [e]
    exact h2
theorem sl_off {n g : Nat} {v : Value} {xs : List Value} {cs : Array Value} (h : Sl w 5 1 v n xs) (hb : Blk w g 3 cs) : ∀ k, v.ownBlock = some k → k ∉ [g] := fun k hk hm => by
  obtain ⟨cur, hc⟩ := Sl.blk h hk
  rw [List.mem_singleton.1 hm] at hc
  have := hc.symm.trans hb
  injection this with this
  injection this with _ this
  exact absurd this (by decide)
end
set_option maxRecDepth 100000 in
set_option maxHeartbeats 6400000 in
theorem each_ok (w : World) {a b c : List UInt8} {va vb vc : Value} (ha : Sr w 1 va a.length (byV a)) (hb : Sr w 1 vb b.length (byV b)) (hc : Sr w 1 vc c.length (byV c)) :
    Calls Try.prog 4 #[va, vb, vc] w fun e w' => e = .returned (.bool true) ∧ Only [] w w' := by
  obtain ⟨aa, ac, hva, _, _⟩ := ha.shape
  obtain ⟨ba, bc, hvb, _, _⟩ := hb.shape
  obtain ⟨ca, cc, hvc, _, _⟩ := hc.shape
  subst hva
  subst hvb
  subst hvc
  have HVA := Lib.hid ha
  have HVB := Lib.hid hb
  have HVC := Lib.hid hc
  obtain ⟨A, hA⟩ : ∃ A, a.length = A := ⟨_, rfl⟩
  obtain ⟨B, hB⟩ : ∃ B, b.length = B := ⟨_, rfl⟩
  obtain ⟨C, hC⟩ : ∃ C, c.length = C := ⟨_, rfl⟩
  have HA := Lib.hid hA
  have HB := Lib.hid hB
  have HC := Lib.hid hC
  rw [hA, hB, hC]
  rw [hA] at HVA
  rw [hB] at HVB
  rw [hC] at HVC
  clear ha hb hc hA hB hC
  by_cases h1 : 20 < A
  · have k1 : decide (20 < (A : Int)) = true := decide_eq_true (by omega)
    have k1n : decide (20 < A) = true := decide_eq_true h1
    clear h1
    go_enter Try.func4, Try.ntmps4
    go_wp2_with fail
    refine (begun12_ok _).mono ?_
    rintro e w1 ⟨rfl, ho⟩
    have HO := Lib.hid ho
    clear ho
    go_wp2
    exact bodyPost_ret (results_tmp rfl _ _ _) rfl ⟨rfl, HO.out⟩
  have k1 : decide (20 < (A : Int)) = false := decide_eq_false (by omega)
  by_cases h2 : 20 < B
  · have k2 : decide (20 < (B : Int)) = true := decide_eq_true (by omega)
    clear h1 h2
    go_enter Try.func4, Try.ntmps4
    go_wp2_with fail
    refine (begun12_ok _).mono ?_
    rintro e w1 ⟨rfl, ho⟩
    have HO := Lib.hid ho
    clear ho
    go_wp2
    exact bodyPost_ret (results_tmp rfl _ _ _) rfl ⟨rfl, HO.out⟩
  have k2 : decide (20 < (B : Int)) = false := decide_eq_false (by omega)
  by_cases h3 : 20 < C
  · have k3 : decide (20 < (C : Int)) = true := decide_eq_true (by omega)
    clear h1 h2 h3
    go_enter Try.func4, Try.ntmps4
    go_wp2_with fail
    refine (begun12_ok _).mono ?_
    rintro e w1 ⟨rfl, ho⟩
    have HO := Lib.hid ho
    clear ho
    go_wp2
    exact bodyPost_ret (results_tmp rfl _ _ _) rfl ⟨rfl, HO.out⟩
  have k3 : decide (20 < (C : Int)) = false := decide_eq_false (by omega)
  have HAL := Lib.hid (show A ≤ 20 by omega)
  have HBL := Lib.hid (show B ≤ 20 by omega)
  have HCL := Lib.hid (show C ≤ 20 by omega)
  clear h1 h2 h3
  go_enter Try.func4, Try.ntmps4
  go_wp2_with fail
  refine (begun12_ok _).mono ?_
  rintro e w1 ⟨rfl, ho⟩
  have HO := Lib.hid ho
  clear ho
  go_wp2_with fail
  refine (oc_new w w1 HO.out 4096 (by decide) (by decide)).mono ?_
  rintro e w2 ⟨d, rfl, h⟩
  have H1 := Lib.hid h
  clear h HO k1 k2 k3
  go_wp2_with fail
  refine (oc_create H1.out (by simp) (s := [97]) rfl rfl (by simp)).mono ?_
  rintro e w3 ⟨rfl, fa, h, _, _⟩
  have H2 := Lib.hid h
  clear h H1
  go_wp2_with fail
  refine (oc_sdir H2.out (by simp)).mono ?_
  rintro e w4 ⟨rfl, h⟩
  have H3 := Lib.hid (show OC w w4 d 4096 [([97], fa)] [([97], fa)] [] (upd (fun _ => ⟨[], [], 0⟩) fa ⟨[], [], 0⟩) from h)
  have HF3 := Lib.hid (show (upd (fun _ => FD.mk [] [] 0) fa ⟨[], [], 0⟩) fa = ⟨[], [], 0⟩ from upd_at _ _ _)
  clear h H2
  generalize (upd (fun _ => FD.mk [] [] 0) fa ⟨[], [], 0⟩) = fs3 at H3 HF3
  have HOA := Lib.hid (show Sr w 1 (.slice aa A ac) a.length (byV a) from by rw [HA.out]; exact HVA.out)
  have HOB := Lib.hid (show Sr w 1 (.slice ba B bc) b.length (byV b) from by rw [HB.out]; exact HVB.out)
  have HOC := Lib.hid (show Sr w 1 (.slice ca C cc) c.length (byV c) from by rw [HC.out]; exact HVC.out)
  go_wp2_with fail
  refine (oc_append H3.out (s := [97]) (f := fa) rfl rfl HOA.out (by rw [HA.out]; have := HAL.out; omega) (by unfold lens; simp [HF3.out]; rw [HA.out]; have := HAL.out; omega)).mono ?_
  rintro e w5 ⟨rfl, h⟩
  rw [HF3.out] at h
  have H4 := Lib.hid h
  have HF4 := Lib.hid (show (upd fs3 fa (FD.mk ([] ++ a) [] 0)) fa = ⟨a, [], 0⟩ from upd_at _ _ _)
  clear h H3 HF3
  dsimp only at H4
  generalize (upd fs3 fa (FD.mk ([] ++ a) [] 0)) = fs4 at H4 HF4
  go_wp2_with fail
  refine (oc_sync H4.out (s := [97]) (f := fa) rfl rfl).mono ?_
  rintro e w6 ⟨rfl, h⟩
  have H5 := Lib.hid h
  have HF5 := Lib.hid (show (upd fs4 fa (fs4 fa).sync) fa = ⟨a, a, 0⟩ from by rw [upd_at, HF4.out, ce_sync])
  clear h H4 HF4
  generalize (upd fs4 fa (fs4 fa).sync) = fs5 at H5 HF5
  go_wp2_with fail
  refine (oc_append H5.out (s := [97]) (f := fa) rfl rfl HOB.out (by rw [HB.out]; have := HBL.out; omega) (by unfold lens; simp [HF5.out]; rw [HA.out, HB.out]; have := HAL.out; have := HBL.out; omega)).mono ?_
  rintro e w7 ⟨rfl, h⟩
  rw [HF5.out] at h
  have H6 := Lib.hid h
  have HF6 := Lib.hid (show (upd fs5 fa (FD.mk (a ++ b) a 0)) fa = ⟨a ++ b, a, 0⟩ from upd_at _ _ _)
  clear h H5 HF5
  dsimp only at H6
  generalize (upd fs5 fa (FD.mk (a ++ b) a 0)) = fs6 at H6 HF6
  go_wp2_with fail
  refine (oc_create H6.out (by simp) (s := [110]) rfl rfl (by simp)).mono ?_
  rintro e w8 ⟨rfl, fb, h, hab, _⟩
  have HNE := Lib.hid (show fa ≠ fb from hab ([97], fa) (by simp))
  have H7 := Lib.hid (show OC w w8 d 4096 [([97], fa), ([110], fb)] [([97], fa)] [.cr [110] fb] (upd fs6 fb ⟨[], [], 0⟩) from h)
  have HX7 := Lib.hid (show (upd fs6 fb ⟨[], [], 0⟩) fa = ⟨a ++ b, a, 0⟩ from by rw [upd_ne _ _ HNE.out, HF6.out])
  have HY7 := Lib.hid (show (upd fs6 fb ⟨[], [], 0⟩) fb = ⟨[], [], 0⟩ from upd_at _ _ _)
  clear h hab H6 HF6
  generalize (upd fs6 fb ⟨[], [], 0⟩) = fs7 at H7 HX7 HY7
  go_wp2_with fail
  refine (oc_append H7.out (s := [110]) (f := fb) rfl rfl HOC.out (by rw [HC.out]; have := HCL.out; omega) (by unfold lens; simp [HX7.out, HY7.out]; rw [HA.out, HB.out, HC.out]; have := HAL.out; have := HBL.out; have := HCL.out; omega)).mono ?_
  rintro e w9 ⟨rfl, h⟩
  rw [HY7.out] at h
  have H8 := Lib.hid h
  have HFA := Lib.hid (show (upd fs7 fb (FD.mk ([] ++ c) [] 0)) fa = ⟨a ++ b, a, 0⟩ from by rw [upd_ne _ _ HNE.out, HX7.out])
  have HFB := Lib.hid (show (upd fs7 fb (FD.mk ([] ++ c) [] 0)) fb = ⟨c, [], 0⟩ from upd_at _ _ _)
  clear h H7 HX7 HY7
  dsimp only at H8
  generalize (upd fs7 fb (FD.mk ([] ++ c) [] 0)) = fs at H8 HFA HFB
  have htm := ce_tm HFA.out HFB.out
  rw [HB.out, HC.out] at htm
  have HTM := Lib.hid htm
  obtain ⟨u2, d0, d1⟩ := ce_up htm.1 htm.2 HBL.out HCL.out
  obtain ⟨N, hN⟩ : ∃ N, (B + 1) * (C + 2) = N := ⟨_, rfl⟩
  rw [hN] at u2
  have HU := Lib.hid (show upM (TM [([97], fa)] [.cr [110] fb] fs) ([Chg.cr [110] fb].length + 1) = some N ∧ chD (TM [([97], fa)] [.cr [110] fb] fs) 0 = B + 1 ∧ chD (TM [([97], fa)] [.cr [110] fb] fs) 1 = (B + 1) * (C + 1) from ⟨u2, d0, d1⟩)
  have HN := Lib.hid hN
  have HNL := Lib.hid (show N ≤ 462 from by rw [← hN]; exact Nat.mul_le_mul (show B + 1 ≤ 21 by have := HBL.out; omega) (show C + 2 ≤ 22 by have := HCL.out; omega))
  clear htm u2 d0 d1
  go_wp2_with fail
  refine (oc_ways H8.out (by simp) HU.out.1).mono ?_
  rintro e w10 ⟨rfl, ho⟩
  have H9 := Lib.hid (H8.out.quiet ho)
  clear ho H8
  have q1 : wrap64 ((B : Int) + 1) = (B : Int) + 1 := wrap_d (by have := HBL.out; omega)
  have q2 : wrap64 ((C : Int) + 2) = (C : Int) + 2 := wrap_d (by have := HCL.out; omega)
  have q3 : wrap64 (((B : Int) + 1) * ((C : Int) + 2)) = (N : Int) := by
    have e1 : ((B : Int) + 1) * ((C : Int) + 2) = (N : Int) := by rw [← hN]; push_cast; rfl
    rw [e1]
    exact wrap_d (by have := HNL.out; omega)
  clear hN
  go_upto_region 16 with fail
  obtain ⟨j5, si, sz0, sz1, sz2⟩ := info_parts info5
  have HQ1 := Lib.hid q1
  clear q1 q2 q3
  have HVA10 := Lib.hid (HVA.out.only0 H9.out.only)
  have HLA := Lib.hid (ce_cap HAL.out HBL.out)
  go_wp2_with (at_builtin; refine wpList_append_slr rfl (.const (.slice none 0 0)) (.tmp 76) 29 rfl 5 j5 _ 1 1 Try.underlying29 si sz0 sz1 sz2 rfl (by decide) rfl (Sl.nil _ _ _) rfl HVA10.out (by intro u hu; obtain ⟨c, _, rfl⟩ := List.mem_map.1 hu; rfl) HLA.out.1 HLA.out.2.1 ?_)
  intro v11 w11 hS11 hg11 hat11
  have hS11 : Sl w11 5 1 v11 A (byV a) := by simpa using hS11
  have HO11 := Lib.hid (show Only [] w10 w11 from (Only.refl _ _).grown hg11 fun k hk => by cases hk)
  have HF11 := Lib.hid (show ∀ g, v11.ownBlock = some g → w10.heap.size ≤ g from fun g hg => by
    rcases hat11 with e | e
    · rw [e] at hg; cases hg
    · rw [e] at hg
      injection hg with hg
      omega)
  have HS11 := Lib.hid hS11
  have HVB11 := Lib.hid (HVB.out.only0 (H9.out.only.trans HO11.out))
  obtain ⟨xa, xc, hxv, _, _⟩ := hS11.shape
  subst hxv
  clear hS11 hg11 hat11 HVA10
  go_wp2_with (at_builtin; refine wpList_append_slr rfl (.tmp 77) (.tmp 78) 29 rfl 5 j5 _ 1 1 Try.underlying29 si sz0 sz1 sz2 rfl (by decide) rfl HS11.out rfl HVB11.out (by intro u hu; obtain ⟨c, _, rfl⟩ := List.mem_map.1 hu; rfl) HLA.out.2.2.1 HLA.out.2.2.2 ?_)
  intro v12 w12 hS12 hg12 hat12
  have hS12 : Sl w12 5 1 v12 (A + B) (byV (a ++ b)) := by rw [byV_append]; exact hS12
  obtain ⟨M, hM⟩ : ∃ M, A + B = M := ⟨_, rfl⟩
  have HM := Lib.hid hM
  rw [hM] at hS12
  clear hM
  have HO12 := Lib.hid (show Only [] w10 w12 from HO11.out.grown hg12 fun k hk => .inr (HF11.out k hk))
  have HS12 := Lib.hid hS12
  obtain ⟨ya, yc, hyv, _, _⟩ := hS12.shape
  subst hyv
  have H12 := Lib.hid (H9.out.quiet HO12.out)
  clear hS12 hg12 hat12 HS11 HF11 HO11 HVB11 H9 HLA
  have q1 := HQ1.out
  obtain ⟨P, hP⟩ : ∃ P, B + 1 = P := ⟨_, rfl⟩
  have HP := Lib.hid hP
  have hmk : ∀ u : World, (Instr.makeSlice 50 (.int .i64 ((B : Int) + 1)) (.int .i64 ((B : Int) + 1))).run Try.prog u = .ok (.slice (some ⟨u.heap.size, 0, none⟩) P P) (u.alloc (.cells ((cnts B C 0).map fun (x : Nat) => iv x).toArray 3)) := fun u => by
    rw [cnts_zero, ← hP]
    exact make_ints (B + 1) (b20 HBL.out) u
  go_upto_region 18 with fail
  have HB13 := Lib.hid (Blk.new w12 3 ((cnts B C 0).map fun (x : Nat) => iv x).toArray)
  obtain ⟨w13, hw13⟩ : ∃ w13, w12.alloc (.cells ((cnts B C 0).map fun (x : Nat) => iv x).toArray 3) = w13 := ⟨_, rfl⟩
  have HO13 := Lib.hid (show Only [] w12 w13 from hw13 ▸ (Only.refl [] w12).alloc _)
  obtain ⟨sb, hsb⟩ : ∃ sb, w12.heap.size = sb := ⟨_, rfl⟩
  rw [hw13, hsb] at HB13
  (try rw [hw13])
  (try rw [hsb])
  have H13 := Lib.hid (H12.out.beside HO13.out (Nat.le_of_eq hsb))
  have HS13 := Lib.hid (HS12.out.only HO13.out (by simp))
  have HSB := Lib.hid (show w.heap.size ≤ sb from hsb ▸ H12.out.only.size)
  clear hw13 hsb hP hmk q1 H12 HS12 HO12 HO13
  go_wp2
  go_loopw [12] (fun z12 wr => ∃ i : Nat, z12 = .int .i64 i ∧ Hid (i ≤ N) ∧ Hid (OC1 w wr d 4096 [([97], fa), ([110], fb)] [([97], fa)] [.cr [110] fb] fs sb) ∧ Hid (Sl wr 5 1 (.slice ya M yc) M (byV (a ++ b))) ∧ Hid (Blk wr sb 3 ((cnts B C i).map fun (x : Nat) => iv x).toArray)) (fun z12 _ => N - (intOf z12).toNat)
  case atStart => exact ⟨0, rfl, Lib.hid (Nat.zero_le _), H13, HS13, HB13⟩
  clear H13 HS13 HB13
  case round =>
    obtain ⟨i, rfl, HK, HD, HS, HSN⟩ := hrel
    by_cases hkl : i < N
    case neg =>
      have hkz : ¬ (i : Int) < (N : Int) := nlt_z hkl
      have HE := Lib.hid (show Blk wr sb 3 ((List.replicate (B + 1) (C + 2)).map fun (x : Nat) => iv x).toArray from by
        have h1 := HSN.out
        rw [Nat.le_antisymm HK.out (Nat.le_of_not_lt hkl), ← HN.out, cnts_end] at h1
        exact h1)
      clear hkl
      go_wp2
      go_loopw [20] (fun z20 wx => ∃ j : Nat, z20 = .int .i64 j ∧ Hid (j ≤ P) ∧ Hid (Only [] wr wx)) (fun z20 _ => P - (intOf z20).toNat)
      case atStart => exact ⟨0, rfl, Lib.hid (Nat.zero_le _), Lib.hid (Only.refl _ _)⟩
      case round =>
        obtain ⟨j, rfl, HJ, HOX⟩ := hrel
        by_cases hj : j < P
        case neg =>
          have hjz : ¬ (j : Int) < (P : Int) := nlt_z hj
          clear hj
          go_wp2
          exact bodyPost_ret (results_tmp rfl _ _ _) rfl ⟨rfl, HD.out.oc.only.trans HOX.out⟩
        have hjz : (j : Int) < (P : Int) := lt_z hj
        have HJE := Lib.hid (wrap_sm (n := P) (by have := HP.out; have := HBL.out; omega) hj)
        have HMJ := Lib.hid (meas hj)
        have HJL := Lib.hid hj
        have yj := seen_end HE.out HOX.out HP.out hj
        have q2 : wrap64 ((C : Int) + 2) = (C : Int) + 2 := wrap_d (by have := HCL.out; omega)
        clear hj
        go_wp2
        go_roundw
        case measure => (try rw [HJE.out]); exact HMJ.out
        case rel => exact ⟨j + 1, by first | rfl | rw [HJE.out], Lib.hid HJL.out, HOX⟩
    have hkz : (i : Int) < (N : Int) := lt_z hkl
    have HKL := Lib.hid hkl
    have HE8 := Lib.hid (wrap_sm (n := N) (by have := HNL.out; omega) hkl)
    have HMS := Lib.hid (meas hkl)
    have HAF := Lib.hid (each_after (i := i) HD.out.oc HFA.out HFB.out (by rw [HB.out]; exact HBL.out) (by rw [HC.out]; exact HCL.out) (by rw [HB.out, HC.out, HN.out]; exact hkl) HSN.out.lt)
    clear hkl
    go_wp2_with fail
    refine HAF.out.mono ?_
    rintro e w14 ⟨d', rfl, ho, hea⟩
    obtain ⟨hsz, hrd, mm, ee, hsn, hor⟩ := hea
    rw [HA.out, HB.out, HC.out] at hsz hrd
    rw [HB.out, HC.out] at hor
    obtain ⟨K, hK⟩ : ∃ K, kA B C i = K := ⟨_, rfl⟩
    have HKA := Lib.hid (show kA B C i = K ∧ K ≤ B from ⟨hK, by rw [← hK]; exact Nat.le_of_lt_succ (kA_lt (by rw [HN.out]; exact HKL.out))⟩)
    rw [hK] at hsz hrd
    obtain ⟨L, hL⟩ : ∃ L, A + K = L := ⟨_, rfl⟩
    have HL := Lib.hid hL
    rw [hL] at hsz hrd
    have HSZ := Lib.hid hsz
    have HRD := Lib.hid hrd
    have HSZN := Lib.hid hsn
    have HOR := Lib.hid hor
    have HO14 := Lib.hid ho
    clear ho hsz hrd hsn hor hK hL HAF hkz
    go_wp2_with fail
    refine (HSZ.out w14 (Only.refl _ _)).mono ?_
    rintro e w15 ⟨rfl, rfl⟩
    go_wp2_with fail
    refine (HRD.out w15 (Only.refl _ _)).mono ?_
    rintro e w16 ⟨rv, rfl, hrs, ho⟩
    obtain ⟨ra, rc, hrv, _, _⟩ := hrs.shape
    subst hrv
    have HO15 := Lib.hid ho
    have HR15 := Lib.hid hrs
    have HD15 := Lib.hid ((HD.out.quiet HO14.out).quiet ho)
    have HS15 := Lib.hid ((HS.out.only HO14.out (by simp)).only ho (by simp))
    have HSN15 := Lib.hid ((HSN.out.only HO14.out (by simp)).only ho (by simp))
    clear ho hrs HSZ HRD HD HS HSN
    have z1 : ¬ (L : Int) < (A : Int) := lge_z (by have := HL.out; omega)
    have z2 : ¬ (M : Int) < (L : Int) := lge_z (by have := HL.out; have := HM.out; have := HKA.out.2; omega)
    have HLM := Lib.hid (show L ≤ M ∧ A ≤ L by have := HL.out; have := HM.out; have := HKA.out.2; omega)
    have HAB := Lib.hid (show (a ++ b).length = M from by rw [List.length_append, HA.out, HB.out, HM.out])
    go_upto_region 28 with fail
    clear z1 z2
    go_wp2
    go_loopw [18] (fun z18 wx => ∃ j : Nat, z18 = .int .i64 j ∧ Hid (j ≤ L) ∧ Hid (Only [] w16 wx)) (fun z18 _ => L - (intOf z18).toNat)
    case atStart => exact ⟨0, rfl, Lib.hid (Nat.zero_le _), Lib.hid (Only.refl _ _)⟩
    case round =>
      obtain ⟨j, rfl, HJ, HOX⟩ := hrel
      by_cases hj : j < L
      · have hjz : (j : Int) < (L : Int) := lt_z hj
        have hjm : (j : Int) < (M : Int) := lt_z (Nat.lt_of_lt_of_le hj HLM.out.1)
        have HJE := Lib.hid (wrap_sm (n := L) (by have := HLM.out; have := HM.out; have := HAL.out; have := HBL.out; omega) hj)
        have HMJ := Lib.hid (meas hj)
        have HJL := Lib.hid hj
        obtain ⟨g, o, g2, o2, x, hra, hya, y1, y2⟩ := each_cells (HR15.out.only0 HOX.out) (HS15.out.only HOX.out (by simp)) HAB.out HLM.out.1 hj
        subst hra
        subst hya
        clear hj
        go_wp2_with fail
        go_quiet (fail)
        go_wp2
        go_roundw
        case measure => (try rw [HJE.out]); exact HMJ.out
        case rel => exact ⟨j + 1, by first | rfl | rw [HJE.out], Lib.hid HJL.out, Lib.hid (HOX.out.drewN _)⟩
      have hjz : ¬ (j : Int) < (L : Int) := nlt_z hj
      have e33 : wrap64 ((L : Int) - (A : Int)) = (K : Int) := by
        rw [show (L : Int) - (A : Int) = (K : Int) by have := HL.out; omega]
        exact wrap_d (by have := HKA.out.2; have := HBL.out; omega)
      have hkp : (K : Int) < (P : Int) := by have := HKA.out.2; have := HP.out; omega
      obtain ⟨cv, hci, ycv, hbn⟩ := seen_at HSN15.out HOX.out (by rw [HN.out]; exact HKL.out) HKA.out.1
      have e34 : wrap64 ((cv : Int) + 1) = (cv : Int) + 1 := wrap_d (by have := HNL.out; have := HKL.out; omega)
      have lsb := (HSN15.out.only HOX.out (by simp)).lt
      have fsb := (HSN15.out.only HOX.out (by simp)).frozen
      have HBN := Lib.hid hbn
      clear hj hbn hci
      go_upto_region 34 with fail
      obtain ⟨w17, hw17⟩ : ∃ w17, wr.setCell ⟨sb, K, none⟩ (.int .i64 ((cv : Int) + 1)) = w17 := ⟨_, rfl⟩
      rw [hw17] at HBN
      rw [hw17]
      have HO17 := Lib.hid (show Only [sb] w16 w17 from hw17 ▸ (HOX.out.mono (by simp)).setCell (.inl (by simp)) _)
      clear hw17 e33 e34 ycv hkp lsb fsb hjz
      have HD17 := Lib.hid (HD15.out.turn HO17.out)
      have HS17 := Lib.hid (HS15.out.only HO17.out (sl_off HS15.out HSN15.out))
      have HSZ17 := Lib.hid (HSZN.out w17 ((HO15.out.mono (by simp)).trans HO17.out))
      have HKL1 := Lib.hid (show i + 1 ≤ N from HKL.out)
      clear HD15 HS15 HSN15 HSZN HO15 HO14 HR15
      rcases HOR.out with ⟨he, h1, h2⟩ | ⟨he, h1⟩
      · subst he
        have hbi : (B : Int) < (i : Int) := by omega
        have hcm : ¬ (C : Int) < (mm : Int) := by omega
        clear h1 h2
        go_wp2_with fail
        refine HSZ17.out.mono ?_
        rintro e w18 ⟨rfl, rfl⟩
        go_wp2
        go_roundw
        case measure => (try rw [HE8.out]); exact HMS.out
        case rel => exact ⟨i + 1, by first | rfl | rw [HE8.out], HKL1, HD17, HS17, HBN⟩
      · subst he
        have hbi : ¬ (B : Int) < (i : Int) := by omega
        clear h1
        go_wp2_with fail
        refine HSZ17.out.mono ?_
        rintro e w18 ⟨rfl, rfl⟩
        go_wp2
        go_roundw
        case measure => (try rw [HE8.out]); exact HMS.out
        case rel => exact ⟨i + 1, by first | rfl | rw [HE8.out], HKL1, HD17, HS17, HBN⟩
end Go.Proofs.Ythekilgolelomaa
