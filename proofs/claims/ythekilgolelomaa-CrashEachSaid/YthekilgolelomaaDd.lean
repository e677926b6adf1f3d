/-
  The disk: an operation is counted; the fault that befalls it.
-/
import Derived.Test.YthekilgolelomaaDc
import Derived.Deep.DeepCutAuto
import Derived.Deep.QuietTactic
import Derived.Deep.RegionHeld3
set_option linter.unusedSimpArgs false
set_option linter.unusedVariables false
namespace Go.Proofs.Ythekilgolelomaa
open Go.RowKit Go.Fl

/-- Kinds of operations. -/
inductive OpK where
  | cr | ap | sy | cu | rn | rm | ds
def Cnt.up (c : Cnt) : OpK → Cnt
  | .cr => { c with cr := wrap64 (c.cr + 1) }
  | .ap => { c with ap := wrap64 (c.ap + 1) }
  | .sy => { c with sy := wrap64 (c.sy + 1) }
  | .cu => { c with cu := wrap64 (c.cu + 1) }
  | .rn => { c with rn := wrap64 (c.rn + 1) }
  | .rm => { c with rm := wrap64 (c.rm + 1) }
  | .ds => { c with ds := wrap64 (c.ds + 1) }
/-- An operation is counted. -/
def PD.op (p : PD) (k : OpK) : PD := { p with cnt := { p.cnt.up k with all := wrap64 (p.cnt.all + 1) }, since := wrap64 (p.since + 1) }
/-- The fault that befalls it. -/
def PD.flt (p : PD) : Flt := (p.faults.find? fun x => x.1 == p.since).getD (0, 0, 0)
theorem fcs_get : ∀ (l : List Flt) (i : Nat), i < l.length → (fcs l)[i * 3]? = some (iv (l.getD i (0, 0, 0)).1) ∧ (fcs l)[i * 3 + 1]? = some (iv (l.getD i (0, 0, 0)).2.1) ∧ (fcs l)[i * 3 + 2]? = some (iv (l.getD i (0, 0, 0)).2.2)
  | [], i, h => by simp at h
  | x :: l, 0, h => ⟨rfl, rfl, rfl⟩
  | x :: l, i + 1, h => by
    have h1 := fcs_get l i (by simpa using h)
    rw [show (i + 1) * 3 = i * 3 + 1 + 1 + 1 by omega]
    exact h1
theorem wrap_d {x : Int} (h : -9223372036854775808 ≤ x ∧ x < 9223372036854775808) : wrap64 x = x := by
  unfold wrap64
  omega
theorem wrap_sm {i n : Nat} (h : n ≤ 1073741824) (hi : i < n) : wrap64 ((i : Int) + 1) = ((i + 1 : Nat) : Int) := by
  rw [wrap_d (by omega)]
  omega
theorem meas {M k : Nat} (h : k < M) : M - (intOf (.int .i64 ((k + 1 : Nat) : Int))).toNat < M - (intOf (.int .i64 (k : Int))).toNat := Nat.sub_lt_sub_left h (Nat.lt_succ_self k)
theorem flt_hit {l : List Flt} {s : Int} {k : Nat} (hk : k < l.length) (h : ∀ j, j < k → (l.getD j (0, 0, 0)).1 ≠ s) (e : (l.getD k (0, 0, 0)).1 = s) : (l.find? fun x => x.1 == s).getD (0, 0, 0) = l.getD k (0, 0, 0) := by
  have hg : ∀ j (hj : j < l.length), l.getD j (0, 0, 0) = l[j] := fun j hj => by rw [List.getD_eq_getElem?_getD, List.getElem?_eq_getElem hj]; rfl
  have : l.find? (fun x => x.1 == s) = some l[k] := by
    rw [List.find?_eq_some_iff_getElem]
    refine ⟨by rw [← hg k hk]; simpa using e, k, hk, rfl, fun j hj => ?_⟩
    have := h j hj
    rw [hg j (by omega)] at this
    simpa using this
  rw [this, hg k hk]
  rfl
theorem flt_miss {l : List Flt} {s : Int} (h : ∀ j, j < l.length → (l.getD j (0, 0, 0)).1 ≠ s) : (l.find? fun x => x.1 == s).getD (0, 0, 0) = (0, 0, 0) := by
  rw [List.find?_eq_none.2 fun x hx => ?_]
  · rfl
  · obtain ⟨j, hj, rfl⟩ := List.mem_iff_getElem.1 hx
    have := h j hj
    rw [List.getD_eq_getElem?_getD, List.getElem?_eq_getElem hj] at this
    simpa using this
section
variable {w w' : World} {F : Nat → Prop} {d : Nat} {p p' : PD} {nb lb : Nat} {pv fv : Value}
/-- The disk's own numbers turn. -/
theorem DM.nums (h : DM w F d p nb lb pv fv) (hb : Blk w' d 59 (dcells p' nb lb pv fv)) (ho : Only [d] w w') (h1 : p'.now = p.now) (h2 : p'.last = p.last) (h3 : p'.pend = p.pend) (h4 : p'.faults = p.faults) : DM w' F d p' nb lb pv fv :=
  ⟨hb, by rw [h1]; exact h.now.only ho (by simpa using h.now.not_cells h.blk), by rw [h2]; exact h.last.only ho (by simpa using h.last.not_cells h.blk), h.ne, by
    rw [h3]
    refine h.pend.only ho fun g hg hm => ?_
    obtain ⟨cur, hc⟩ : ∃ cur, Blk w g 109 cur := by
      rcases h.pend.2 with ⟨e, _⟩ | ⟨g', o, c, cur, e, hh, _⟩
      · rw [e] at hg; cases hg
      · rw [e] at hg; injection hg with hg; subst hg; exact ⟨cur, hh⟩
    exact Blk.ne_ hc h.blk (by decide) (by simpa using hm), by
    rw [h4]
    refine h.flt.only ho fun g hg hm => ?_
    obtain ⟨cur, hc⟩ : ∃ cur, Blk w g 83 cur := by
      rcases h.flt.2 with ⟨e, _⟩ | ⟨g', o, c, cur, e, hh, _⟩
      · rw [e] at hg; cases hg
      · rw [e] at hg; injection hg with hg; subst hg; exact ⟨cur, hh⟩
    exact Blk.ne_ hc h.blk (by decide) (by simpa using hm), h.fd, h.fn, h.fl, h.fp_, h.ff⟩
theorem DM.only0 (h : DM w F d p nb lb pv fv) (ho : Only [] w w') : DM w' F d p nb lb pv fv := h.keep fun k hk _ => ho.block k hk (by simp)
theorem DM.far (h : DM w F d p nb lb pv fv) {g : Nat} (ho : Only [g] w w') (hd : d < g ∧ nb < g ∧ lb < g ∧ (∀ k, pv.ownBlock = some k → k < g) ∧ ∀ k, fv.ownBlock = some k → k < g) : DM w' F d p nb lb pv fv :=
  ⟨h.blk.only ho (by simp; omega), h.now.only ho (by simp; omega), h.last.only ho (by simp; omega), h.ne, h.pend.only ho fun k hk hm => by
    have := hd.2.2.2.1 k hk
    simp at hm
    omega, h.flt.only ho fun k hk hm => by
    have := hd.2.2.2.2 k hk
    simp at hm
    omega, h.fd, h.fn, h.fl, h.fp_, h.ff⟩
theorem DM.lts (h : DM w F d p nb lb pv fv) : d < w.heap.size ∧ nb < w.heap.size ∧ lb < w.heap.size ∧ (∀ k, pv.ownBlock = some k → k < w.heap.size) ∧ ∀ k, fv.ownBlock = some k → k < w.heap.size := ⟨h.blk.lt, h.now.lt, h.last.lt, h.pend.lt, h.flt.lt⟩
theorem only_fresh {S : List Nat} {w0 a b : World} {g : Nat} (h : Only S w0 a) (k : Only [g] a b) (hg : w0.heap.size ≤ g) : Only S w0 b := h.trans' k fun i hi => .inr (by simp at hi; omega)
theorem only_new {a b : World} {o : Obj} (h : Only [a.heap.size] (a.alloc o) b) : Only [] a b :=
  ⟨h.os, h.tape, h.output, by have := h.size; simp at this; omega, fun k hk _ => (h.block k (by simp; omega) (by simp; omega)).trans (Below.heap_alloc a o k hk)⟩
set_option maxRecDepth 100000 in
set_option maxHeartbeats 3200000 in
theorem op_cr (h : DM w F d p nb lb pv fv) (hlen : p.faults.length ≤ 1048576) : Calls Try.prog 32 #[cp d, .pointer (some ⟨d, 6, none⟩)] w fun e w' =>
    e = .returned (fltV (p.op .cr).flt) ∧ DM w' F d (p.op .cr) nb lb pv fv ∧ Only [d] w w' := by
  have H := Lib.hid h
  have HLL := Lib.hid hlen
  have hb1 := h.blk.alloc (.cells #[iv 0, iv 0, iv 0] 83)
  have hr := Blk.new w 83 #[iv 0, iv 0, iv 0]
  have xk := hb1.cell 6
  have x13 := hb1.cell 13
  have x16 := hb1.cell 16
  have xf := hb1.frozen
  have xl := hb1.lt
  have hne : d ≠ w.heap.size := Nat.ne_of_lt h.blk.lt
  simp [dcells] at xk x13 x16
  have HD := Lib.hid (show DM ((((w.alloc (.cells #[iv 0, iv 0, iv 0] 83)).setCell ⟨d, 6, none⟩ (iv (wrap64 (p.cnt.cr + 1)))).setCell ⟨d, 13, none⟩ (iv (wrap64 (p.cnt.all + 1)))).setCell ⟨d, 16, none⟩ (iv (wrap64 (p.since + 1)))) F d (p.op .cr) nb lb pv fv from
    h.nums (by have := ((hb1.set_ 6 (iv (wrap64 (p.cnt.cr + 1)))).set_ 13 (iv (wrap64 (p.cnt.all + 1)))).set_ 16 (iv (wrap64 (p.since + 1))); simpa [dcells, PD.op, Cnt.up] using this) (((((Only.refl [d] w).alloc _).setCell (.inl (by simp)) _).setCell (.inl (by simp)) _).setCell (.inl (by simp)) _) rfl rfl rfl rfl)
  have HR := Lib.hid (show Blk ((((w.alloc (.cells #[iv 0, iv 0, iv 0] 83)).setCell ⟨d, 6, none⟩ (iv (wrap64 (p.cnt.cr + 1)))).setCell ⟨d, 13, none⟩ (iv (wrap64 (p.cnt.all + 1)))).setCell ⟨d, 16, none⟩ (iv (wrap64 (p.since + 1)))) w.heap.size 83 #[iv 0, iv 0, iv 0] from
    ((hr.far (by simpa using hne.symm) _).far (by simpa using hne.symm) _).far (by simpa using hne.symm) _)
  have HO := Lib.hid (show Only [d] w ((((w.alloc (.cells #[iv 0, iv 0, iv 0] 83)).setCell ⟨d, 6, none⟩ (iv (wrap64 (p.cnt.cr + 1)))).setCell ⟨d, 13, none⟩ (iv (wrap64 (p.cnt.all + 1)))).setCell ⟨d, 16, none⟩ (iv (wrap64 (p.since + 1)))) from ((((Only.refl [d] w).alloc _).setCell (.inl (by simp)) _).setCell (.inl (by simp)) _).setCell (.inl (by simp)) _)
  have HF := Lib.hid (show (p.op .cr).faults = p.faults ∧ (p.op .cr).since = wrap64 (p.since + 1) from ⟨rfl, rfl⟩)
  clear h hb1 hr hlen
  go_enter Try.func32, Try.ntmps32
  go_upto_region 4 with fail
  clear xk x13 x16 xf xl
  generalize ((((w.alloc (.cells #[iv 0, iv 0, iv 0] 83)).setCell ⟨d, 6, none⟩ (iv (wrap64 (p.cnt.cr + 1)))).setCell ⟨d, 13, none⟩ (iv (wrap64 (p.cnt.all + 1)))).setCell ⟨d, 16, none⟩ (iv (wrap64 (p.since + 1)))) = w2 at *
  have HLT := Lib.hid H.out.lts
  obtain ⟨res, hres⟩ : ∃ res, w.heap.size = res := ⟨_, rfl⟩
  rw [hres] at HR HLT hne ⊢
  have HRG := Lib.hid (show w.heap.size ≤ res from Nat.le_of_eq hres)
  clear hres hne
  obtain ⟨fa, fc, hfv, hsh⟩ := HD.out.flt.shape
  subst hfv
  clear hsh
  obtain ⟨N, hN⟩ : ∃ N, (p.op .cr).faults.length = N := ⟨_, rfl⟩
  have HN := Lib.hid hN
  have HNM := Lib.hid (show N ≤ 1048576 by rw [← hN]; exact HLL.out)
  have HSL := Lib.hid HD.out.flt
  rw [hN] at HSL
  have x15 := HD.out.blk.cell 15
  have xl := HD.out.blk.lt
  simp [dcells] at x15
  rw [hN] at x15
  clear hN
  go_wp2
  clear x15 xl
  go_loopw [33] (fun z wr => ∃ k : Nat, z = .int .i64 k ∧ Hid (k ≤ N) ∧ Hid (Only [] w2 wr) ∧ Hid (∀ j, j < k → ((p.op .cr).faults.getD j (0, 0, 0)).1 ≠ (p.op .cr).since)) (fun z _ => N - (intOf z).toNat)
  case atStart => exact ⟨0, rfl, Lib.hid (Nat.zero_le _), Lib.hid (Only.refl _ _), Lib.hid (fun j h => absurd h (Nat.not_lt_zero _))⟩
  case round =>
    obtain ⟨k, rfl, HK, HOK, HX⟩ := hrel
    have HR2 := Lib.hid (HR.out.only HOK.out (by simp))
    have HD2 := Lib.hid (HD.out.only0 HOK.out)
    by_cases hkl : k < N
    case neg =>
      have hkz : ¬ (k : Int) < (N : Int) := by omega
      have HE := Lib.hid (show k = N from Nat.le_antisymm HK.out (Nat.le_of_not_lt hkl))
      clear hkl
      go_wp2_with (refine wpList_store_blk (g := res) (k := 0) rfl 83 (.tmp 4) (.tmp 46) rfl [iv 0, iv 0, iv 0] rfl rfl HR2.out (by kernel_rfl) (by simp) (by simp [Value.oneCell']) ?_)
      intro w5 hB5 hO5
      have HB5 := Lib.hid (show Blk w5 res 83 #[iv 0, iv 0, iv 0] by simpa using hB5)
      have HO5 := Lib.hid (only_fresh (HO.out.trans (HOK.out.mono (by simp))) hO5 HRG.out)
      have HD5 := Lib.hid (HD2.out.far hO5 HLT.out)
      clear hB5 hO5
      go_wp2
      refine bodyPost_ret (results1 rfl (res_blk (cs := [iv 0, iv 0, iv 0]) Try.underlying83 (by kernel_rfl) rfl HB5.out)) rfl ?_
      refine ⟨?_, HD5.out, HO5.out⟩
      rw [show (p.op .cr).flt = (0, 0, 0) from flt_miss (by rw [HN.out, ← HE.out]; exact fun j hj => HX.out j hj)]
      rfl
    have hkz : (k : Int) < (N : Int) := by omega
    have hka : k < (p.op .cr).faults.length := by rw [HN.out]; exact hkl
    have HS2 := Lib.hid (HSL.out.only HOK.out (fun _ _ => by simp))
    obtain ⟨g, o, c', hv, hfm⟩ := HS2.out.form (by omega)
    injection hv with hva hvl hvc
    subst hva
    subst hvc
    clear hvl hfm
    obtain ⟨f0, f1, f2⟩ := fcs_get (p.op .cr).faults k hka
    have y0 := HS2.out.cells_ _ _ f0
    have y1 := HS2.out.cells_ _ _ f1
    have y2 := HS2.out.cells_ _ _ f2
    rw [Addr.add_lit] at y0 y1 y2
    rw [← Nat.add_assoc] at y1 y2
    have e8 := wrap_sm (by have := HNM.out; omega) hkl
    have HKL := Lib.hid hkl
    have HKA := Lib.hid hka
    obtain ⟨x, hx⟩ : ∃ x, (p.op .cr).faults.getD k (0, 0, 0) = x := ⟨_, rfl⟩
    rw [hx] at y0 y1 y2
    have HXX := Lib.hid hx
    clear f0 f1 f2 hka hkl hx
    go_wp2_with (refine wpList_store_blk (g := wr.heap.size) (k := 0) rfl 83 (.tmp 6) (.tmp 36) rfl [iv x.1, iv x.2.1, iv x.2.2] rfl rfl (Blk.new wr 83 #[iv 0, iv 0, iv 0]) (by kernel_rfl) (by simp) (by simp [Value.oneCell']) ?_)
    intro w5 hB5 hO5
    have HB5 := Lib.hid (show Blk w5 wr.heap.size 83 #[iv x.1, iv x.2.1, iv x.2.2] by simpa using hB5)
    have HO5 := Lib.hid (only_new hO5)
    have HNE := Lib.hid (Nat.ne_of_lt HR2.out.lt)
    clear hB5 hO5 y0 y1 y2
    generalize wr.heap.size = xb at *
    have HD5 := Lib.hid (HD2.out.only0 HO5.out)
    have HR5 := Lib.hid (HR2.out.only HO5.out (by simp))
    have z0 := HB5.out.cell 0
    have xl5 := HB5.out.lt
    have x16 := HD5.out.blk.cell 16
    have xl := HD5.out.blk.lt
    simp [dcells] at z0 x16
    have hcs : (x.1 == (p.op .cr).since) = true ∨ (x.1 == (p.op .cr).since) = false := by cases (x.1 == (p.op .cr).since) <;> simp
    rcases hcs with hq | hq
    · have HQ := Lib.hid (show x.1 = (p.op .cr).since by simpa using hq)
      go_wp2_with fail
      go_quiet (fail)
      have HB6 := Lib.hid (HB5.out.drewN nq)
      have HR6 := Lib.hid (HR5.out.drewN nq)
      have HD6 := Lib.hid (HD5.out.only0 ((Only.refl [] w5).drewN nq))
      have HO6 := Lib.hid ((HO.out.trans ((HOK.out.trans HO5.out).mono (by simp))).drewN nq)
      clear z0 xl5 x16 xl
      generalize w5.drewN nq = w6 at *
      have z0 := HB6.out.cell 0
      have z1 := HB6.out.cell 1
      have z2 := HB6.out.cell 2
      simp at z0 z1 z2
      go_wp2_with (refine wpList_store_blk (g := res) (k := 0) rfl 83 (.tmp 4) (.tmp 44) rfl [iv x.1, iv x.2.1, iv x.2.2] rfl rfl HR6.out (by kernel_rfl) (by simp) (by simp [Value.oneCell']) ?_)
      intro w7 hB7 hO7
      have HB7 := Lib.hid (show Blk w7 res 83 #[iv x.1, iv x.2.1, iv x.2.2] by simpa using hB7)
      have HO7 := Lib.hid (only_fresh HO6.out hO7 HRG.out)
      have HD7 := Lib.hid (HD6.out.far hO7 HLT.out)
      clear hB7 hO7
      go_wp2
      refine bodyPost_ret (results1 rfl (res_blk (cs := [iv x.1, iv x.2.1, iv x.2.2]) Try.underlying83 (by kernel_rfl) rfl HB7.out)) rfl ?_
      refine ⟨?_, HD7.out, HO7.out⟩
      rw [show (p.op .cr).flt = x from (flt_hit HKA.out HX.out (by rw [HXX.out]; exact HQ.out)).trans HXX.out]
      rfl
    · have HQ := Lib.hid (show x.1 ≠ (p.op .cr).since by simpa using hq)
      go_wp2_with fail
      go_quiet (fail)
      go_wp2
      go_roundw
      case measure => (try rw [e8]); exact meas HKL.out
      case rel => exact ⟨k + 1, by first | rfl | rw [e8], Lib.hid HKL.out, Lib.hid ((HOK.out.trans HO5.out).drewN _), Lib.hid (fun j hj => by
        rcases Nat.lt_succ_iff_lt_or_eq.1 hj with hj | hj
        · exact HX.out j hj
        · subst hj; rw [HXX.out]; exact HQ.out)⟩
set_option maxRecDepth 100000 in
set_option maxHeartbeats 3200000 in
theorem op_ap (h : DM w F d p nb lb pv fv) (hlen : p.faults.length ≤ 1048576) : Calls Try.prog 32 #[cp d, .pointer (some ⟨d, 7, none⟩)] w fun e w' =>
    e = .returned (fltV (p.op .ap).flt) ∧ DM w' F d (p.op .ap) nb lb pv fv ∧ Only [d] w w' := by
  have H := Lib.hid h
  have HLL := Lib.hid hlen
  have hb1 := h.blk.alloc (.cells #[iv 0, iv 0, iv 0] 83)
  have hr := Blk.new w 83 #[iv 0, iv 0, iv 0]
  have xk := hb1.cell 7
  have x13 := hb1.cell 13
  have x16 := hb1.cell 16
  have xf := hb1.frozen
  have xl := hb1.lt
  have hne : d ≠ w.heap.size := Nat.ne_of_lt h.blk.lt
  simp [dcells] at xk x13 x16
  have HD := Lib.hid (show DM ((((w.alloc (.cells #[iv 0, iv 0, iv 0] 83)).setCell ⟨d, 7, none⟩ (iv (wrap64 (p.cnt.ap + 1)))).setCell ⟨d, 13, none⟩ (iv (wrap64 (p.cnt.all + 1)))).setCell ⟨d, 16, none⟩ (iv (wrap64 (p.since + 1)))) F d (p.op .ap) nb lb pv fv from
    h.nums (by have := ((hb1.set_ 7 (iv (wrap64 (p.cnt.ap + 1)))).set_ 13 (iv (wrap64 (p.cnt.all + 1)))).set_ 16 (iv (wrap64 (p.since + 1))); simpa [dcells, PD.op, Cnt.up] using this) (((((Only.refl [d] w).alloc _).setCell (.inl (by simp)) _).setCell (.inl (by simp)) _).setCell (.inl (by simp)) _) rfl rfl rfl rfl)
  have HR := Lib.hid (show Blk ((((w.alloc (.cells #[iv 0, iv 0, iv 0] 83)).setCell ⟨d, 7, none⟩ (iv (wrap64 (p.cnt.ap + 1)))).setCell ⟨d, 13, none⟩ (iv (wrap64 (p.cnt.all + 1)))).setCell ⟨d, 16, none⟩ (iv (wrap64 (p.since + 1)))) w.heap.size 83 #[iv 0, iv 0, iv 0] from
    ((hr.far (by simpa using hne.symm) _).far (by simpa using hne.symm) _).far (by simpa using hne.symm) _)
  have HO := Lib.hid (show Only [d] w ((((w.alloc (.cells #[iv 0, iv 0, iv 0] 83)).setCell ⟨d, 7, none⟩ (iv (wrap64 (p.cnt.ap + 1)))).setCell ⟨d, 13, none⟩ (iv (wrap64 (p.cnt.all + 1)))).setCell ⟨d, 16, none⟩ (iv (wrap64 (p.since + 1)))) from ((((Only.refl [d] w).alloc _).setCell (.inl (by simp)) _).setCell (.inl (by simp)) _).setCell (.inl (by simp)) _)
  have HF := Lib.hid (show (p.op .ap).faults = p.faults ∧ (p.op .ap).since = wrap64 (p.since + 1) from ⟨rfl, rfl⟩)
  clear h hb1 hr hlen
  go_enter Try.func32, Try.ntmps32
  go_upto_region 4 with fail
  clear xk x13 x16 xf xl
  generalize ((((w.alloc (.cells #[iv 0, iv 0, iv 0] 83)).setCell ⟨d, 7, none⟩ (iv (wrap64 (p.cnt.ap + 1)))).setCell ⟨d, 13, none⟩ (iv (wrap64 (p.cnt.all + 1)))).setCell ⟨d, 16, none⟩ (iv (wrap64 (p.since + 1)))) = w2 at *
  have HLT := Lib.hid H.out.lts
  obtain ⟨res, hres⟩ : ∃ res, w.heap.size = res := ⟨_, rfl⟩
  rw [hres] at HR HLT hne ⊢
  have HRG := Lib.hid (show w.heap.size ≤ res from Nat.le_of_eq hres)
  clear hres hne
  obtain ⟨fa, fc, hfv, hsh⟩ := HD.out.flt.shape
  subst hfv
  clear hsh
  obtain ⟨N, hN⟩ : ∃ N, (p.op .ap).faults.length = N := ⟨_, rfl⟩
  have HN := Lib.hid hN
  have HNM := Lib.hid (show N ≤ 1048576 by rw [← hN]; exact HLL.out)
  have HSL := Lib.hid HD.out.flt
  rw [hN] at HSL
  have x15 := HD.out.blk.cell 15
  have xl := HD.out.blk.lt
  simp [dcells] at x15
  rw [hN] at x15
  clear hN
  go_wp2
  clear x15 xl
  go_loopw [33] (fun z wr => ∃ k : Nat, z = .int .i64 k ∧ Hid (k ≤ N) ∧ Hid (Only [] w2 wr) ∧ Hid (∀ j, j < k → ((p.op .ap).faults.getD j (0, 0, 0)).1 ≠ (p.op .ap).since)) (fun z _ => N - (intOf z).toNat)
  case atStart => exact ⟨0, rfl, Lib.hid (Nat.zero_le _), Lib.hid (Only.refl _ _), Lib.hid (fun j h => absurd h (Nat.not_lt_zero _))⟩
  case round =>
    obtain ⟨k, rfl, HK, HOK, HX⟩ := hrel
    have HR2 := Lib.hid (HR.out.only HOK.out (by simp))
    have HD2 := Lib.hid (HD.out.only0 HOK.out)
    by_cases hkl : k < N
    case neg =>
      have hkz : ¬ (k : Int) < (N : Int) := by omega
      have HE := Lib.hid (show k = N from Nat.le_antisymm HK.out (Nat.le_of_not_lt hkl))
      clear hkl
      go_wp2_with (refine wpList_store_blk (g := res) (k := 0) rfl 83 (.tmp 4) (.tmp 46) rfl [iv 0, iv 0, iv 0] rfl rfl HR2.out (by kernel_rfl) (by simp) (by simp [Value.oneCell']) ?_)
      intro w5 hB5 hO5
      have HB5 := Lib.hid (show Blk w5 res 83 #[iv 0, iv 0, iv 0] by simpa using hB5)
      have HO5 := Lib.hid (only_fresh (HO.out.trans (HOK.out.mono (by simp))) hO5 HRG.out)
      have HD5 := Lib.hid (HD2.out.far hO5 HLT.out)
      clear hB5 hO5
      go_wp2
      refine bodyPost_ret (results1 rfl (res_blk (cs := [iv 0, iv 0, iv 0]) Try.underlying83 (by kernel_rfl) rfl HB5.out)) rfl ?_
      refine ⟨?_, HD5.out, HO5.out⟩
      rw [show (p.op .ap).flt = (0, 0, 0) from flt_miss (by rw [HN.out, ← HE.out]; exact fun j hj => HX.out j hj)]
      rfl
    have hkz : (k : Int) < (N : Int) := by omega
    have hka : k < (p.op .ap).faults.length := by rw [HN.out]; exact hkl
    have HS2 := Lib.hid (HSL.out.only HOK.out (fun _ _ => by simp))
    obtain ⟨g, o, c', hv, hfm⟩ := HS2.out.form (by omega)
    injection hv with hva hvl hvc
    subst hva
    subst hvc
    clear hvl hfm
    obtain ⟨f0, f1, f2⟩ := fcs_get (p.op .ap).faults k hka
    have y0 := HS2.out.cells_ _ _ f0
    have y1 := HS2.out.cells_ _ _ f1
    have y2 := HS2.out.cells_ _ _ f2
    rw [Addr.add_lit] at y0 y1 y2
    rw [← Nat.add_assoc] at y1 y2
    have e8 := wrap_sm (by have := HNM.out; omega) hkl
    have HKL := Lib.hid hkl
    have HKA := Lib.hid hka
    obtain ⟨x, hx⟩ : ∃ x, (p.op .ap).faults.getD k (0, 0, 0) = x := ⟨_, rfl⟩
    rw [hx] at y0 y1 y2
    have HXX := Lib.hid hx
    clear f0 f1 f2 hka hkl hx
    go_wp2_with (refine wpList_store_blk (g := wr.heap.size) (k := 0) rfl 83 (.tmp 6) (.tmp 36) rfl [iv x.1, iv x.2.1, iv x.2.2] rfl rfl (Blk.new wr 83 #[iv 0, iv 0, iv 0]) (by kernel_rfl) (by simp) (by simp [Value.oneCell']) ?_)
    intro w5 hB5 hO5
    have HB5 := Lib.hid (show Blk w5 wr.heap.size 83 #[iv x.1, iv x.2.1, iv x.2.2] by simpa using hB5)
    have HO5 := Lib.hid (only_new hO5)
    have HNE := Lib.hid (Nat.ne_of_lt HR2.out.lt)
    clear hB5 hO5 y0 y1 y2
    generalize wr.heap.size = xb at *
    have HD5 := Lib.hid (HD2.out.only0 HO5.out)
    have HR5 := Lib.hid (HR2.out.only HO5.out (by simp))
    have z0 := HB5.out.cell 0
    have xl5 := HB5.out.lt
    have x16 := HD5.out.blk.cell 16
    have xl := HD5.out.blk.lt
    simp [dcells] at z0 x16
    have hcs : (x.1 == (p.op .ap).since) = true ∨ (x.1 == (p.op .ap).since) = false := by cases (x.1 == (p.op .ap).since) <;> simp
    rcases hcs with hq | hq
    · have HQ := Lib.hid (show x.1 = (p.op .ap).since by simpa using hq)
      go_wp2_with fail
      go_quiet (fail)
      have HB6 := Lib.hid (HB5.out.drewN nq)
      have HR6 := Lib.hid (HR5.out.drewN nq)
      have HD6 := Lib.hid (HD5.out.only0 ((Only.refl [] w5).drewN nq))
      have HO6 := Lib.hid ((HO.out.trans ((HOK.out.trans HO5.out).mono (by simp))).drewN nq)
      clear z0 xl5 x16 xl
      generalize w5.drewN nq = w6 at *
      have z0 := HB6.out.cell 0
      have z1 := HB6.out.cell 1
      have z2 := HB6.out.cell 2
      simp at z0 z1 z2
      go_wp2_with (refine wpList_store_blk (g := res) (k := 0) rfl 83 (.tmp 4) (.tmp 44) rfl [iv x.1, iv x.2.1, iv x.2.2] rfl rfl HR6.out (by kernel_rfl) (by simp) (by simp [Value.oneCell']) ?_)
      intro w7 hB7 hO7
      have HB7 := Lib.hid (show Blk w7 res 83 #[iv x.1, iv x.2.1, iv x.2.2] by simpa using hB7)
      have HO7 := Lib.hid (only_fresh HO6.out hO7 HRG.out)
      have HD7 := Lib.hid (HD6.out.far hO7 HLT.out)
      clear hB7 hO7
      go_wp2
      refine bodyPost_ret (results1 rfl (res_blk (cs := [iv x.1, iv x.2.1, iv x.2.2]) Try.underlying83 (by kernel_rfl) rfl HB7.out)) rfl ?_
      refine ⟨?_, HD7.out, HO7.out⟩
      rw [show (p.op .ap).flt = x from (flt_hit HKA.out HX.out (by rw [HXX.out]; exact HQ.out)).trans HXX.out]
      rfl
    · have HQ := Lib.hid (show x.1 ≠ (p.op .ap).since by simpa using hq)
      go_wp2_with fail
      go_quiet (fail)
      go_wp2
      go_roundw
      case measure => (try rw [e8]); exact meas HKL.out
      case rel => exact ⟨k + 1, by first | rfl | rw [e8], Lib.hid HKL.out, Lib.hid ((HOK.out.trans HO5.out).drewN _), Lib.hid (fun j hj => by
        rcases Nat.lt_succ_iff_lt_or_eq.1 hj with hj | hj
        · exact HX.out j hj
        · subst hj; rw [HXX.out]; exact HQ.out)⟩
set_option maxRecDepth 100000 in
set_option maxHeartbeats 3200000 in
theorem op_sy (h : DM w F d p nb lb pv fv) (hlen : p.faults.length ≤ 1048576) : Calls Try.prog 32 #[cp d, .pointer (some ⟨d, 8, none⟩)] w fun e w' =>
    e = .returned (fltV (p.op .sy).flt) ∧ DM w' F d (p.op .sy) nb lb pv fv ∧ Only [d] w w' := by
  have H := Lib.hid h
  have HLL := Lib.hid hlen
  have hb1 := h.blk.alloc (.cells #[iv 0, iv 0, iv 0] 83)
  have hr := Blk.new w 83 #[iv 0, iv 0, iv 0]
  have xk := hb1.cell 8
  have x13 := hb1.cell 13
  have x16 := hb1.cell 16
  have xf := hb1.frozen
  have xl := hb1.lt
  have hne : d ≠ w.heap.size := Nat.ne_of_lt h.blk.lt
  simp [dcells] at xk x13 x16
  have HD := Lib.hid (show DM ((((w.alloc (.cells #[iv 0, iv 0, iv 0] 83)).setCell ⟨d, 8, none⟩ (iv (wrap64 (p.cnt.sy + 1)))).setCell ⟨d, 13, none⟩ (iv (wrap64 (p.cnt.all + 1)))).setCell ⟨d, 16, none⟩ (iv (wrap64 (p.since + 1)))) F d (p.op .sy) nb lb pv fv from
    h.nums (by have := ((hb1.set_ 8 (iv (wrap64 (p.cnt.sy + 1)))).set_ 13 (iv (wrap64 (p.cnt.all + 1)))).set_ 16 (iv (wrap64 (p.since + 1))); simpa [dcells, PD.op, Cnt.up] using this) (((((Only.refl [d] w).alloc _).setCell (.inl (by simp)) _).setCell (.inl (by simp)) _).setCell (.inl (by simp)) _) rfl rfl rfl rfl)
  have HR := Lib.hid (show Blk ((((w.alloc (.cells #[iv 0, iv 0, iv 0] 83)).setCell ⟨d, 8, none⟩ (iv (wrap64 (p.cnt.sy + 1)))).setCell ⟨d, 13, none⟩ (iv (wrap64 (p.cnt.all + 1)))).setCell ⟨d, 16, none⟩ (iv (wrap64 (p.since + 1)))) w.heap.size 83 #[iv 0, iv 0, iv 0] from
    ((hr.far (by simpa using hne.symm) _).far (by simpa using hne.symm) _).far (by simpa using hne.symm) _)
  have HO := Lib.hid (show Only [d] w ((((w.alloc (.cells #[iv 0, iv 0, iv 0] 83)).setCell ⟨d, 8, none⟩ (iv (wrap64 (p.cnt.sy + 1)))).setCell ⟨d, 13, none⟩ (iv (wrap64 (p.cnt.all + 1)))).setCell ⟨d, 16, none⟩ (iv (wrap64 (p.since + 1)))) from ((((Only.refl [d] w).alloc _).setCell (.inl (by simp)) _).setCell (.inl (by simp)) _).setCell (.inl (by simp)) _)
  have HF := Lib.hid (show (p.op .sy).faults = p.faults ∧ (p.op .sy).since = wrap64 (p.since + 1) from ⟨rfl, rfl⟩)
  clear h hb1 hr hlen
  go_enter Try.func32, Try.ntmps32
  go_upto_region 4 with fail
  clear xk x13 x16 xf xl
  generalize ((((w.alloc (.cells #[iv 0, iv 0, iv 0] 83)).setCell ⟨d, 8, none⟩ (iv (wrap64 (p.cnt.sy + 1)))).setCell ⟨d, 13, none⟩ (iv (wrap64 (p.cnt.all + 1)))).setCell ⟨d, 16, none⟩ (iv (wrap64 (p.since + 1)))) = w2 at *
  have HLT := Lib.hid H.out.lts
  obtain ⟨res, hres⟩ : ∃ res, w.heap.size = res := ⟨_, rfl⟩
  rw [hres] at HR HLT hne ⊢
  have HRG := Lib.hid (show w.heap.size ≤ res from Nat.le_of_eq hres)
  clear hres hne
  obtain ⟨fa, fc, hfv, hsh⟩ := HD.out.flt.shape
  subst hfv
  clear hsh
  obtain ⟨N, hN⟩ : ∃ N, (p.op .sy).faults.length = N := ⟨_, rfl⟩
  have HN := Lib.hid hN
  have HNM := Lib.hid (show N ≤ 1048576 by rw [← hN]; exact HLL.out)
  have HSL := Lib.hid HD.out.flt
  rw [hN] at HSL
  have x15 := HD.out.blk.cell 15
  have xl := HD.out.blk.lt
  simp [dcells] at x15
  rw [hN] at x15
  clear hN
  go_wp2
  clear x15 xl
  go_loopw [33] (fun z wr => ∃ k : Nat, z = .int .i64 k ∧ Hid (k ≤ N) ∧ Hid (Only [] w2 wr) ∧ Hid (∀ j, j < k → ((p.op .sy).faults.getD j (0, 0, 0)).1 ≠ (p.op .sy).since)) (fun z _ => N - (intOf z).toNat)
  case atStart => exact ⟨0, rfl, Lib.hid (Nat.zero_le _), Lib.hid (Only.refl _ _), Lib.hid (fun j h => absurd h (Nat.not_lt_zero _))⟩
  case round =>
    obtain ⟨k, rfl, HK, HOK, HX⟩ := hrel
    have HR2 := Lib.hid (HR.out.only HOK.out (by simp))
    have HD2 := Lib.hid (HD.out.only0 HOK.out)
    by_cases hkl : k < N
    case neg =>
      have hkz : ¬ (k : Int) < (N : Int) := by omega
      have HE := Lib.hid (show k = N from Nat.le_antisymm HK.out (Nat.le_of_not_lt hkl))
      clear hkl
      go_wp2_with (refine wpList_store_blk (g := res) (k := 0) rfl 83 (.tmp 4) (.tmp 46) rfl [iv 0, iv 0, iv 0] rfl rfl HR2.out (by kernel_rfl) (by simp) (by simp [Value.oneCell']) ?_)
      intro w5 hB5 hO5
      have HB5 := Lib.hid (show Blk w5 res 83 #[iv 0, iv 0, iv 0] by simpa using hB5)
      have HO5 := Lib.hid (only_fresh (HO.out.trans (HOK.out.mono (by simp))) hO5 HRG.out)
      have HD5 := Lib.hid (HD2.out.far hO5 HLT.out)
      clear hB5 hO5
      go_wp2
      refine bodyPost_ret (results1 rfl (res_blk (cs := [iv 0, iv 0, iv 0]) Try.underlying83 (by kernel_rfl) rfl HB5.out)) rfl ?_
      refine ⟨?_, HD5.out, HO5.out⟩
      rw [show (p.op .sy).flt = (0, 0, 0) from flt_miss (by rw [HN.out, ← HE.out]; exact fun j hj => HX.out j hj)]
      rfl
    have hkz : (k : Int) < (N : Int) := by omega
    have hka : k < (p.op .sy).faults.length := by rw [HN.out]; exact hkl
    have HS2 := Lib.hid (HSL.out.only HOK.out (fun _ _ => by simp))
    obtain ⟨g, o, c', hv, hfm⟩ := HS2.out.form (by omega)
    injection hv with hva hvl hvc
    subst hva
    subst hvc
    clear hvl hfm
    obtain ⟨f0, f1, f2⟩ := fcs_get (p.op .sy).faults k hka
    have y0 := HS2.out.cells_ _ _ f0
    have y1 := HS2.out.cells_ _ _ f1
    have y2 := HS2.out.cells_ _ _ f2
    rw [Addr.add_lit] at y0 y1 y2
    rw [← Nat.add_assoc] at y1 y2
    have e8 := wrap_sm (by have := HNM.out; omega) hkl
    have HKL := Lib.hid hkl
    have HKA := Lib.hid hka
    obtain ⟨x, hx⟩ : ∃ x, (p.op .sy).faults.getD k (0, 0, 0) = x := ⟨_, rfl⟩
    rw [hx] at y0 y1 y2
    have HXX := Lib.hid hx
    clear f0 f1 f2 hka hkl hx
    go_wp2_with (refine wpList_store_blk (g := wr.heap.size) (k := 0) rfl 83 (.tmp 6) (.tmp 36) rfl [iv x.1, iv x.2.1, iv x.2.2] rfl rfl (Blk.new wr 83 #[iv 0, iv 0, iv 0]) (by kernel_rfl) (by simp) (by simp [Value.oneCell']) ?_)
    intro w5 hB5 hO5
    have HB5 := Lib.hid (show Blk w5 wr.heap.size 83 #[iv x.1, iv x.2.1, iv x.2.2] by simpa using hB5)
    have HO5 := Lib.hid (only_new hO5)
    have HNE := Lib.hid (Nat.ne_of_lt HR2.out.lt)
    clear hB5 hO5 y0 y1 y2
    generalize wr.heap.size = xb at *
    have HD5 := Lib.hid (HD2.out.only0 HO5.out)
    have HR5 := Lib.hid (HR2.out.only HO5.out (by simp))
    have z0 := HB5.out.cell 0
    have xl5 := HB5.out.lt
    have x16 := HD5.out.blk.cell 16
    have xl := HD5.out.blk.lt
    simp [dcells] at z0 x16
    have hcs : (x.1 == (p.op .sy).since) = true ∨ (x.1 == (p.op .sy).since) = false := by cases (x.1 == (p.op .sy).since) <;> simp
    rcases hcs with hq | hq
    · have HQ := Lib.hid (show x.1 = (p.op .sy).since by simpa using hq)
      go_wp2_with fail
      go_quiet (fail)
      have HB6 := Lib.hid (HB5.out.drewN nq)
      have HR6 := Lib.hid (HR5.out.drewN nq)
      have HD6 := Lib.hid (HD5.out.only0 ((Only.refl [] w5).drewN nq))
      have HO6 := Lib.hid ((HO.out.trans ((HOK.out.trans HO5.out).mono (by simp))).drewN nq)
      clear z0 xl5 x16 xl
      generalize w5.drewN nq = w6 at *
      have z0 := HB6.out.cell 0
      have z1 := HB6.out.cell 1
      have z2 := HB6.out.cell 2
      simp at z0 z1 z2
      go_wp2_with (refine wpList_store_blk (g := res) (k := 0) rfl 83 (.tmp 4) (.tmp 44) rfl [iv x.1, iv x.2.1, iv x.2.2] rfl rfl HR6.out (by kernel_rfl) (by simp) (by simp [Value.oneCell']) ?_)
      intro w7 hB7 hO7
      have HB7 := Lib.hid (show Blk w7 res 83 #[iv x.1, iv x.2.1, iv x.2.2] by simpa using hB7)
      have HO7 := Lib.hid (only_fresh HO6.out hO7 HRG.out)
      have HD7 := Lib.hid (HD6.out.far hO7 HLT.out)
      clear hB7 hO7
      go_wp2
      refine bodyPost_ret (results1 rfl (res_blk (cs := [iv x.1, iv x.2.1, iv x.2.2]) Try.underlying83 (by kernel_rfl) rfl HB7.out)) rfl ?_
      refine ⟨?_, HD7.out, HO7.out⟩
      rw [show (p.op .sy).flt = x from (flt_hit HKA.out HX.out (by rw [HXX.out]; exact HQ.out)).trans HXX.out]
      rfl
    · have HQ := Lib.hid (show x.1 ≠ (p.op .sy).since by simpa using hq)
      go_wp2_with fail
      go_quiet (fail)
      go_wp2
      go_roundw
      case measure => (try rw [e8]); exact meas HKL.out
      case rel => exact ⟨k + 1, by first | rfl | rw [e8], Lib.hid HKL.out, Lib.hid ((HOK.out.trans HO5.out).drewN _), Lib.hid (fun j hj => by
        rcases Nat.lt_succ_iff_lt_or_eq.1 hj with hj | hj
        · exact HX.out j hj
        · subst hj; rw [HXX.out]; exact HQ.out)⟩
set_option maxRecDepth 100000 in
set_option maxHeartbeats 3200000 in
theorem op_cu (h : DM w F d p nb lb pv fv) (hlen : p.faults.length ≤ 1048576) : Calls Try.prog 32 #[cp d, .pointer (some ⟨d, 9, none⟩)] w fun e w' =>
    e = .returned (fltV (p.op .cu).flt) ∧ DM w' F d (p.op .cu) nb lb pv fv ∧ Only [d] w w' := by
  have H := Lib.hid h
  have HLL := Lib.hid hlen
  have hb1 := h.blk.alloc (.cells #[iv 0, iv 0, iv 0] 83)
  have hr := Blk.new w 83 #[iv 0, iv 0, iv 0]
  have xk := hb1.cell 9
  have x13 := hb1.cell 13
  have x16 := hb1.cell 16
  have xf := hb1.frozen
  have xl := hb1.lt
  have hne : d ≠ w.heap.size := Nat.ne_of_lt h.blk.lt
  simp [dcells] at xk x13 x16
  have HD := Lib.hid (show DM ((((w.alloc (.cells #[iv 0, iv 0, iv 0] 83)).setCell ⟨d, 9, none⟩ (iv (wrap64 (p.cnt.cu + 1)))).setCell ⟨d, 13, none⟩ (iv (wrap64 (p.cnt.all + 1)))).setCell ⟨d, 16, none⟩ (iv (wrap64 (p.since + 1)))) F d (p.op .cu) nb lb pv fv from
    h.nums (by have := ((hb1.set_ 9 (iv (wrap64 (p.cnt.cu + 1)))).set_ 13 (iv (wrap64 (p.cnt.all + 1)))).set_ 16 (iv (wrap64 (p.since + 1))); simpa [dcells, PD.op, Cnt.up] using this) (((((Only.refl [d] w).alloc _).setCell (.inl (by simp)) _).setCell (.inl (by simp)) _).setCell (.inl (by simp)) _) rfl rfl rfl rfl)
  have HR := Lib.hid (show Blk ((((w.alloc (.cells #[iv 0, iv 0, iv 0] 83)).setCell ⟨d, 9, none⟩ (iv (wrap64 (p.cnt.cu + 1)))).setCell ⟨d, 13, none⟩ (iv (wrap64 (p.cnt.all + 1)))).setCell ⟨d, 16, none⟩ (iv (wrap64 (p.since + 1)))) w.heap.size 83 #[iv 0, iv 0, iv 0] from
    ((hr.far (by simpa using hne.symm) _).far (by simpa using hne.symm) _).far (by simpa using hne.symm) _)
  have HO := Lib.hid (show Only [d] w ((((w.alloc (.cells #[iv 0, iv 0, iv 0] 83)).setCell ⟨d, 9, none⟩ (iv (wrap64 (p.cnt.cu + 1)))).setCell ⟨d, 13, none⟩ (iv (wrap64 (p.cnt.all + 1)))).setCell ⟨d, 16, none⟩ (iv (wrap64 (p.since + 1)))) from ((((Only.refl [d] w).alloc _).setCell (.inl (by simp)) _).setCell (.inl (by simp)) _).setCell (.inl (by simp)) _)
  have HF := Lib.hid (show (p.op .cu).faults = p.faults ∧ (p.op .cu).since = wrap64 (p.since + 1) from ⟨rfl, rfl⟩)
  clear h hb1 hr hlen
  go_enter Try.func32, Try.ntmps32
  go_upto_region 4 with fail
  clear xk x13 x16 xf xl
  generalize ((((w.alloc (.cells #[iv 0, iv 0, iv 0] 83)).setCell ⟨d, 9, none⟩ (iv (wrap64 (p.cnt.cu + 1)))).setCell ⟨d, 13, none⟩ (iv (wrap64 (p.cnt.all + 1)))).setCell ⟨d, 16, none⟩ (iv (wrap64 (p.since + 1)))) = w2 at *
  have HLT := Lib.hid H.out.lts
  obtain ⟨res, hres⟩ : ∃ res, w.heap.size = res := ⟨_, rfl⟩
  rw [hres] at HR HLT hne ⊢
  have HRG := Lib.hid (show w.heap.size ≤ res from Nat.le_of_eq hres)
  clear hres hne
  obtain ⟨fa, fc, hfv, hsh⟩ := HD.out.flt.shape
  subst hfv
  clear hsh
  obtain ⟨N, hN⟩ : ∃ N, (p.op .cu).faults.length = N := ⟨_, rfl⟩
  have HN := Lib.hid hN
  have HNM := Lib.hid (show N ≤ 1048576 by rw [← hN]; exact HLL.out)
  have HSL := Lib.hid HD.out.flt
  rw [hN] at HSL
  have x15 := HD.out.blk.cell 15
  have xl := HD.out.blk.lt
  simp [dcells] at x15
  rw [hN] at x15
  clear hN
  go_wp2
  clear x15 xl
  go_loopw [33] (fun z wr => ∃ k : Nat, z = .int .i64 k ∧ Hid (k ≤ N) ∧ Hid (Only [] w2 wr) ∧ Hid (∀ j, j < k → ((p.op .cu).faults.getD j (0, 0, 0)).1 ≠ (p.op .cu).since)) (fun z _ => N - (intOf z).toNat)
  case atStart => exact ⟨0, rfl, Lib.hid (Nat.zero_le _), Lib.hid (Only.refl _ _), Lib.hid (fun j h => absurd h (Nat.not_lt_zero _))⟩
  case round =>
    obtain ⟨k, rfl, HK, HOK, HX⟩ := hrel
    have HR2 := Lib.hid (HR.out.only HOK.out (by simp))
    have HD2 := Lib.hid (HD.out.only0 HOK.out)
    by_cases hkl : k < N
    case neg =>
      have hkz : ¬ (k : Int) < (N : Int) := by omega
      have HE := Lib.hid (show k = N from Nat.le_antisymm HK.out (Nat.le_of_not_lt hkl))
      clear hkl
      go_wp2_with (refine wpList_store_blk (g := res) (k := 0) rfl 83 (.tmp 4) (.tmp 46) rfl [iv 0, iv 0, iv 0] rfl rfl HR2.out (by kernel_rfl) (by simp) (by simp [Value.oneCell']) ?_)
      intro w5 hB5 hO5
      have HB5 := Lib.hid (show Blk w5 res 83 #[iv 0, iv 0, iv 0] by simpa using hB5)
      have HO5 := Lib.hid (only_fresh (HO.out.trans (HOK.out.mono (by simp))) hO5 HRG.out)
      have HD5 := Lib.hid (HD2.out.far hO5 HLT.out)
      clear hB5 hO5
      go_wp2
      refine bodyPost_ret (results1 rfl (res_blk (cs := [iv 0, iv 0, iv 0]) Try.underlying83 (by kernel_rfl) rfl HB5.out)) rfl ?_
      refine ⟨?_, HD5.out, HO5.out⟩
      rw [show (p.op .cu).flt = (0, 0, 0) from flt_miss (by rw [HN.out, ← HE.out]; exact fun j hj => HX.out j hj)]
      rfl
    have hkz : (k : Int) < (N : Int) := by omega
    have hka : k < (p.op .cu).faults.length := by rw [HN.out]; exact hkl
    have HS2 := Lib.hid (HSL.out.only HOK.out (fun _ _ => by simp))
    obtain ⟨g, o, c', hv, hfm⟩ := HS2.out.form (by omega)
    injection hv with hva hvl hvc
    subst hva
    subst hvc
    clear hvl hfm
    obtain ⟨f0, f1, f2⟩ := fcs_get (p.op .cu).faults k hka
    have y0 := HS2.out.cells_ _ _ f0
    have y1 := HS2.out.cells_ _ _ f1
    have y2 := HS2.out.cells_ _ _ f2
    rw [Addr.add_lit] at y0 y1 y2
    rw [← Nat.add_assoc] at y1 y2
    have e8 := wrap_sm (by have := HNM.out; omega) hkl
    have HKL := Lib.hid hkl
    have HKA := Lib.hid hka
    obtain ⟨x, hx⟩ : ∃ x, (p.op .cu).faults.getD k (0, 0, 0) = x := ⟨_, rfl⟩
    rw [hx] at y0 y1 y2
    have HXX := Lib.hid hx
    clear f0 f1 f2 hka hkl hx
    go_wp2_with (refine wpList_store_blk (g := wr.heap.size) (k := 0) rfl 83 (.tmp 6) (.tmp 36) rfl [iv x.1, iv x.2.1, iv x.2.2] rfl rfl (Blk.new wr 83 #[iv 0, iv 0, iv 0]) (by kernel_rfl) (by simp) (by simp [Value.oneCell']) ?_)
    intro w5 hB5 hO5
    have HB5 := Lib.hid (show Blk w5 wr.heap.size 83 #[iv x.1, iv x.2.1, iv x.2.2] by simpa using hB5)
    have HO5 := Lib.hid (only_new hO5)
    have HNE := Lib.hid (Nat.ne_of_lt HR2.out.lt)
    clear hB5 hO5 y0 y1 y2
    generalize wr.heap.size = xb at *
    have HD5 := Lib.hid (HD2.out.only0 HO5.out)
    have HR5 := Lib.hid (HR2.out.only HO5.out (by simp))
    have z0 := HB5.out.cell 0
    have xl5 := HB5.out.lt
    have x16 := HD5.out.blk.cell 16
    have xl := HD5.out.blk.lt
    simp [dcells] at z0 x16
    have hcs : (x.1 == (p.op .cu).since) = true ∨ (x.1 == (p.op .cu).since) = false := by cases (x.1 == (p.op .cu).since) <;> simp
    rcases hcs with hq | hq
    · have HQ := Lib.hid (show x.1 = (p.op .cu).since by simpa using hq)
      go_wp2_with fail
      go_quiet (fail)
      have HB6 := Lib.hid (HB5.out.drewN nq)
      have HR6 := Lib.hid (HR5.out.drewN nq)
      have HD6 := Lib.hid (HD5.out.only0 ((Only.refl [] w5).drewN nq))
      have HO6 := Lib.hid ((HO.out.trans ((HOK.out.trans HO5.out).mono (by simp))).drewN nq)
      clear z0 xl5 x16 xl
      generalize w5.drewN nq = w6 at *
      have z0 := HB6.out.cell 0
      have z1 := HB6.out.cell 1
      have z2 := HB6.out.cell 2
      simp at z0 z1 z2
      go_wp2_with (refine wpList_store_blk (g := res) (k := 0) rfl 83 (.tmp 4) (.tmp 44) rfl [iv x.1, iv x.2.1, iv x.2.2] rfl rfl HR6.out (by kernel_rfl) (by simp) (by simp [Value.oneCell']) ?_)
      intro w7 hB7 hO7
      have HB7 := Lib.hid (show Blk w7 res 83 #[iv x.1, iv x.2.1, iv x.2.2] by simpa using hB7)
      have HO7 := Lib.hid (only_fresh HO6.out hO7 HRG.out)
      have HD7 := Lib.hid (HD6.out.far hO7 HLT.out)
      clear hB7 hO7
      go_wp2
      refine bodyPost_ret (results1 rfl (res_blk (cs := [iv x.1, iv x.2.1, iv x.2.2]) Try.underlying83 (by kernel_rfl) rfl HB7.out)) rfl ?_
      refine ⟨?_, HD7.out, HO7.out⟩
      rw [show (p.op .cu).flt = x from (flt_hit HKA.out HX.out (by rw [HXX.out]; exact HQ.out)).trans HXX.out]
      rfl
    · have HQ := Lib.hid (show x.1 ≠ (p.op .cu).since by simpa using hq)
      go_wp2_with fail
      go_quiet (fail)
      go_wp2
      go_roundw
      case measure => (try rw [e8]); exact meas HKL.out
      case rel => exact ⟨k + 1, by first | rfl | rw [e8], Lib.hid HKL.out, Lib.hid ((HOK.out.trans HO5.out).drewN _), Lib.hid (fun j hj => by
        rcases Nat.lt_succ_iff_lt_or_eq.1 hj with hj | hj
        · exact HX.out j hj
        · subst hj; rw [HXX.out]; exact HQ.out)⟩
set_option maxRecDepth 100000 in
set_option maxHeartbeats 3200000 in
theorem op_rn (h : DM w F d p nb lb pv fv) (hlen : p.faults.length ≤ 1048576) : Calls Try.prog 32 #[cp d, .pointer (some ⟨d, 10, none⟩)] w fun e w' =>
    e = .returned (fltV (p.op .rn).flt) ∧ DM w' F d (p.op .rn) nb lb pv fv ∧ Only [d] w w' := by
  have H := Lib.hid h
  have HLL := Lib.hid hlen
  have hb1 := h.blk.alloc (.cells #[iv 0, iv 0, iv 0] 83)
  have hr := Blk.new w 83 #[iv 0, iv 0, iv 0]
  have xk := hb1.cell 10
  have x13 := hb1.cell 13
  have x16 := hb1.cell 16
  have xf := hb1.frozen
  have xl := hb1.lt
  have hne : d ≠ w.heap.size := Nat.ne_of_lt h.blk.lt
  simp [dcells] at xk x13 x16
  have HD := Lib.hid (show DM ((((w.alloc (.cells #[iv 0, iv 0, iv 0] 83)).setCell ⟨d, 10, none⟩ (iv (wrap64 (p.cnt.rn + 1)))).setCell ⟨d, 13, none⟩ (iv (wrap64 (p.cnt.all + 1)))).setCell ⟨d, 16, none⟩ (iv (wrap64 (p.since + 1)))) F d (p.op .rn) nb lb pv fv from
    h.nums (by have := ((hb1.set_ 10 (iv (wrap64 (p.cnt.rn + 1)))).set_ 13 (iv (wrap64 (p.cnt.all + 1)))).set_ 16 (iv (wrap64 (p.since + 1))); simpa [dcells, PD.op, Cnt.up] using this) (((((Only.refl [d] w).alloc _).setCell (.inl (by simp)) _).setCell (.inl (by simp)) _).setCell (.inl (by simp)) _) rfl rfl rfl rfl)
  have HR := Lib.hid (show Blk ((((w.alloc (.cells #[iv 0, iv 0, iv 0] 83)).setCell ⟨d, 10, none⟩ (iv (wrap64 (p.cnt.rn + 1)))).setCell ⟨d, 13, none⟩ (iv (wrap64 (p.cnt.all + 1)))).setCell ⟨d, 16, none⟩ (iv (wrap64 (p.since + 1)))) w.heap.size 83 #[iv 0, iv 0, iv 0] from
    ((hr.far (by simpa using hne.symm) _).far (by simpa using hne.symm) _).far (by simpa using hne.symm) _)
  have HO := Lib.hid (show Only [d] w ((((w.alloc (.cells #[iv 0, iv 0, iv 0] 83)).setCell ⟨d, 10, none⟩ (iv (wrap64 (p.cnt.rn + 1)))).setCell ⟨d, 13, none⟩ (iv (wrap64 (p.cnt.all + 1)))).setCell ⟨d, 16, none⟩ (iv (wrap64 (p.since + 1)))) from ((((Only.refl [d] w).alloc _).setCell (.inl (by simp)) _).setCell (.inl (by simp)) _).setCell (.inl (by simp)) _)
  have HF := Lib.hid (show (p.op .rn).faults = p.faults ∧ (p.op .rn).since = wrap64 (p.since + 1) from ⟨rfl, rfl⟩)
  clear h hb1 hr hlen
  go_enter Try.func32, Try.ntmps32
  go_upto_region 4 with fail
  clear xk x13 x16 xf xl
  generalize ((((w.alloc (.cells #[iv 0, iv 0, iv 0] 83)).setCell ⟨d, 10, none⟩ (iv (wrap64 (p.cnt.rn + 1)))).setCell ⟨d, 13, none⟩ (iv (wrap64 (p.cnt.all + 1)))).setCell ⟨d, 16, none⟩ (iv (wrap64 (p.since + 1)))) = w2 at *
  have HLT := Lib.hid H.out.lts
  obtain ⟨res, hres⟩ : ∃ res, w.heap.size = res := ⟨_, rfl⟩
  rw [hres] at HR HLT hne ⊢
  have HRG := Lib.hid (show w.heap.size ≤ res from Nat.le_of_eq hres)
  clear hres hne
  obtain ⟨fa, fc, hfv, hsh⟩ := HD.out.flt.shape
  subst hfv
  clear hsh
  obtain ⟨N, hN⟩ : ∃ N, (p.op .rn).faults.length = N := ⟨_, rfl⟩
  have HN := Lib.hid hN
  have HNM := Lib.hid (show N ≤ 1048576 by rw [← hN]; exact HLL.out)
  have HSL := Lib.hid HD.out.flt
  rw [hN] at HSL
  have x15 := HD.out.blk.cell 15
  have xl := HD.out.blk.lt
  simp [dcells] at x15
  rw [hN] at x15
  clear hN
  go_wp2
  clear x15 xl
  go_loopw [33] (fun z wr => ∃ k : Nat, z = .int .i64 k ∧ Hid (k ≤ N) ∧ Hid (Only [] w2 wr) ∧ Hid (∀ j, j < k → ((p.op .rn).faults.getD j (0, 0, 0)).1 ≠ (p.op .rn).since)) (fun z _ => N - (intOf z).toNat)
  case atStart => exact ⟨0, rfl, Lib.hid (Nat.zero_le _), Lib.hid (Only.refl _ _), Lib.hid (fun j h => absurd h (Nat.not_lt_zero _))⟩
  case round =>
    obtain ⟨k, rfl, HK, HOK, HX⟩ := hrel
    have HR2 := Lib.hid (HR.out.only HOK.out (by simp))
    have HD2 := Lib.hid (HD.out.only0 HOK.out)
    by_cases hkl : k < N
    case neg =>
      have hkz : ¬ (k : Int) < (N : Int) := by omega
      have HE := Lib.hid (show k = N from Nat.le_antisymm HK.out (Nat.le_of_not_lt hkl))
      clear hkl
      go_wp2_with (refine wpList_store_blk (g := res) (k := 0) rfl 83 (.tmp 4) (.tmp 46) rfl [iv 0, iv 0, iv 0] rfl rfl HR2.out (by kernel_rfl) (by simp) (by simp [Value.oneCell']) ?_)
      intro w5 hB5 hO5
      have HB5 := Lib.hid (show Blk w5 res 83 #[iv 0, iv 0, iv 0] by simpa using hB5)
      have HO5 := Lib.hid (only_fresh (HO.out.trans (HOK.out.mono (by simp))) hO5 HRG.out)
      have HD5 := Lib.hid (HD2.out.far hO5 HLT.out)
      clear hB5 hO5
      go_wp2
      refine bodyPost_ret (results1 rfl (res_blk (cs := [iv 0, iv 0, iv 0]) Try.underlying83 (by kernel_rfl) rfl HB5.out)) rfl ?_
      refine ⟨?_, HD5.out, HO5.out⟩
      rw [show (p.op .rn).flt = (0, 0, 0) from flt_miss (by rw [HN.out, ← HE.out]; exact fun j hj => HX.out j hj)]
      rfl
    have hkz : (k : Int) < (N : Int) := by omega
    have hka : k < (p.op .rn).faults.length := by rw [HN.out]; exact hkl
    have HS2 := Lib.hid (HSL.out.only HOK.out (fun _ _ => by simp))
    obtain ⟨g, o, c', hv, hfm⟩ := HS2.out.form (by omega)
    injection hv with hva hvl hvc
    subst hva
    subst hvc
    clear hvl hfm
    obtain ⟨f0, f1, f2⟩ := fcs_get (p.op .rn).faults k hka
    have y0 := HS2.out.cells_ _ _ f0
    have y1 := HS2.out.cells_ _ _ f1
    have y2 := HS2.out.cells_ _ _ f2
    rw [Addr.add_lit] at y0 y1 y2
    rw [← Nat.add_assoc] at y1 y2
    have e8 := wrap_sm (by have := HNM.out; omega) hkl
    have HKL := Lib.hid hkl
    have HKA := Lib.hid hka
    obtain ⟨x, hx⟩ : ∃ x, (p.op .rn).faults.getD k (0, 0, 0) = x := ⟨_, rfl⟩
    rw [hx] at y0 y1 y2
    have HXX := Lib.hid hx
    clear f0 f1 f2 hka hkl hx
    go_wp2_with (refine wpList_store_blk (g := wr.heap.size) (k := 0) rfl 83 (.tmp 6) (.tmp 36) rfl [iv x.1, iv x.2.1, iv x.2.2] rfl rfl (Blk.new wr 83 #[iv 0, iv 0, iv 0]) (by kernel_rfl) (by simp) (by simp [Value.oneCell']) ?_)
    intro w5 hB5 hO5
    have HB5 := Lib.hid (show Blk w5 wr.heap.size 83 #[iv x.1, iv x.2.1, iv x.2.2] by simpa using hB5)
    have HO5 := Lib.hid (only_new hO5)
    have HNE := Lib.hid (Nat.ne_of_lt HR2.out.lt)
    clear hB5 hO5 y0 y1 y2
    generalize wr.heap.size = xb at *
    have HD5 := Lib.hid (HD2.out.only0 HO5.out)
    have HR5 := Lib.hid (HR2.out.only HO5.out (by simp))
    have z0 := HB5.out.cell 0
    have xl5 := HB5.out.lt
    have x16 := HD5.out.blk.cell 16
    have xl := HD5.out.blk.lt
    simp [dcells] at z0 x16
    have hcs : (x.1 == (p.op .rn).since) = true ∨ (x.1 == (p.op .rn).since) = false := by cases (x.1 == (p.op .rn).since) <;> simp
    rcases hcs with hq | hq
    · have HQ := Lib.hid (show x.1 = (p.op .rn).since by simpa using hq)
      go_wp2_with fail
      go_quiet (fail)
      have HB6 := Lib.hid (HB5.out.drewN nq)
      have HR6 := Lib.hid (HR5.out.drewN nq)
      have HD6 := Lib.hid (HD5.out.only0 ((Only.refl [] w5).drewN nq))
      have HO6 := Lib.hid ((HO.out.trans ((HOK.out.trans HO5.out).mono (by simp))).drewN nq)
      clear z0 xl5 x16 xl
      generalize w5.drewN nq = w6 at *
      have z0 := HB6.out.cell 0
      have z1 := HB6.out.cell 1
      have z2 := HB6.out.cell 2
      simp at z0 z1 z2
      go_wp2_with (refine wpList_store_blk (g := res) (k := 0) rfl 83 (.tmp 4) (.tmp 44) rfl [iv x.1, iv x.2.1, iv x.2.2] rfl rfl HR6.out (by kernel_rfl) (by simp) (by simp [Value.oneCell']) ?_)
      intro w7 hB7 hO7
      have HB7 := Lib.hid (show Blk w7 res 83 #[iv x.1, iv x.2.1, iv x.2.2] by simpa using hB7)
      have HO7 := Lib.hid (only_fresh HO6.out hO7 HRG.out)
      have HD7 := Lib.hid (HD6.out.far hO7 HLT.out)
      clear hB7 hO7
      go_wp2
      refine bodyPost_ret (results1 rfl (res_blk (cs := [iv x.1, iv x.2.1, iv x.2.2]) Try.underlying83 (by kernel_rfl) rfl HB7.out)) rfl ?_
      refine ⟨?_, HD7.out, HO7.out⟩
      rw [show (p.op .rn).flt = x from (flt_hit HKA.out HX.out (by rw [HXX.out]; exact HQ.out)).trans HXX.out]
      rfl
    · have HQ := Lib.hid (show x.1 ≠ (p.op .rn).since by simpa using hq)
      go_wp2_with fail
      go_quiet (fail)
      go_wp2
      go_roundw
      case measure => (try rw [e8]); exact meas HKL.out
      case rel => exact ⟨k + 1, by first | rfl | rw [e8], Lib.hid HKL.out, Lib.hid ((HOK.out.trans HO5.out).drewN _), Lib.hid (fun j hj => by
        rcases Nat.lt_succ_iff_lt_or_eq.1 hj with hj | hj
        · exact HX.out j hj
        · subst hj; rw [HXX.out]; exact HQ.out)⟩
set_option maxRecDepth 100000 in
set_option maxHeartbeats 3200000 in
theorem op_rm (h : DM w F d p nb lb pv fv) (hlen : p.faults.length ≤ 1048576) : Calls Try.prog 32 #[cp d, .pointer (some ⟨d, 11, none⟩)] w fun e w' =>
    e = .returned (fltV (p.op .rm).flt) ∧ DM w' F d (p.op .rm) nb lb pv fv ∧ Only [d] w w' := by
  have H := Lib.hid h
  have HLL := Lib.hid hlen
  have hb1 := h.blk.alloc (.cells #[iv 0, iv 0, iv 0] 83)
  have hr := Blk.new w 83 #[iv 0, iv 0, iv 0]
  have xk := hb1.cell 11
  have x13 := hb1.cell 13
  have x16 := hb1.cell 16
  have xf := hb1.frozen
  have xl := hb1.lt
  have hne : d ≠ w.heap.size := Nat.ne_of_lt h.blk.lt
  simp [dcells] at xk x13 x16
  have HD := Lib.hid (show DM ((((w.alloc (.cells #[iv 0, iv 0, iv 0] 83)).setCell ⟨d, 11, none⟩ (iv (wrap64 (p.cnt.rm + 1)))).setCell ⟨d, 13, none⟩ (iv (wrap64 (p.cnt.all + 1)))).setCell ⟨d, 16, none⟩ (iv (wrap64 (p.since + 1)))) F d (p.op .rm) nb lb pv fv from
    h.nums (by have := ((hb1.set_ 11 (iv (wrap64 (p.cnt.rm + 1)))).set_ 13 (iv (wrap64 (p.cnt.all + 1)))).set_ 16 (iv (wrap64 (p.since + 1))); simpa [dcells, PD.op, Cnt.up] using this) (((((Only.refl [d] w).alloc _).setCell (.inl (by simp)) _).setCell (.inl (by simp)) _).setCell (.inl (by simp)) _) rfl rfl rfl rfl)
  have HR := Lib.hid (show Blk ((((w.alloc (.cells #[iv 0, iv 0, iv 0] 83)).setCell ⟨d, 11, none⟩ (iv (wrap64 (p.cnt.rm + 1)))).setCell ⟨d, 13, none⟩ (iv (wrap64 (p.cnt.all + 1)))).setCell ⟨d, 16, none⟩ (iv (wrap64 (p.since + 1)))) w.heap.size 83 #[iv 0, iv 0, iv 0] from
    ((hr.far (by simpa using hne.symm) _).far (by simpa using hne.symm) _).far (by simpa using hne.symm) _)
  have HO := Lib.hid (show Only [d] w ((((w.alloc (.cells #[iv 0, iv 0, iv 0] 83)).setCell ⟨d, 11, none⟩ (iv (wrap64 (p.cnt.rm + 1)))).setCell ⟨d, 13, none⟩ (iv (wrap64 (p.cnt.all + 1)))).setCell ⟨d, 16, none⟩ (iv (wrap64 (p.since + 1)))) from ((((Only.refl [d] w).alloc _).setCell (.inl (by simp)) _).setCell (.inl (by simp)) _).setCell (.inl (by simp)) _)
  have HF := Lib.hid (show (p.op .rm).faults = p.faults ∧ (p.op .rm).since = wrap64 (p.since + 1) from ⟨rfl, rfl⟩)
  clear h hb1 hr hlen
  go_enter Try.func32, Try.ntmps32
  go_upto_region 4 with fail
  clear xk x13 x16 xf xl
  generalize ((((w.alloc (.cells #[iv 0, iv 0, iv 0] 83)).setCell ⟨d, 11, none⟩ (iv (wrap64 (p.cnt.rm + 1)))).setCell ⟨d, 13, none⟩ (iv (wrap64 (p.cnt.all + 1)))).setCell ⟨d, 16, none⟩ (iv (wrap64 (p.since + 1)))) = w2 at *
  have HLT := Lib.hid H.out.lts
  obtain ⟨res, hres⟩ : ∃ res, w.heap.size = res := ⟨_, rfl⟩
  rw [hres] at HR HLT hne ⊢
  have HRG := Lib.hid (show w.heap.size ≤ res from Nat.le_of_eq hres)
  clear hres hne
  obtain ⟨fa, fc, hfv, hsh⟩ := HD.out.flt.shape
  subst hfv
  clear hsh
  obtain ⟨N, hN⟩ : ∃ N, (p.op .rm).faults.length = N := ⟨_, rfl⟩
  have HN := Lib.hid hN
  have HNM := Lib.hid (show N ≤ 1048576 by rw [← hN]; exact HLL.out)
  have HSL := Lib.hid HD.out.flt
  rw [hN] at HSL
  have x15 := HD.out.blk.cell 15
  have xl := HD.out.blk.lt
  simp [dcells] at x15
  rw [hN] at x15
  clear hN
  go_wp2
  clear x15 xl
  go_loopw [33] (fun z wr => ∃ k : Nat, z = .int .i64 k ∧ Hid (k ≤ N) ∧ Hid (Only [] w2 wr) ∧ Hid (∀ j, j < k → ((p.op .rm).faults.getD j (0, 0, 0)).1 ≠ (p.op .rm).since)) (fun z _ => N - (intOf z).toNat)
  case atStart => exact ⟨0, rfl, Lib.hid (Nat.zero_le _), Lib.hid (Only.refl _ _), Lib.hid (fun j h => absurd h (Nat.not_lt_zero _))⟩
  case round =>
    obtain ⟨k, rfl, HK, HOK, HX⟩ := hrel
    have HR2 := Lib.hid (HR.out.only HOK.out (by simp))
    have HD2 := Lib.hid (HD.out.only0 HOK.out)
    by_cases hkl : k < N
    case neg =>
      have hkz : ¬ (k : Int) < (N : Int) := by omega
      have HE := Lib.hid (show k = N from Nat.le_antisymm HK.out (Nat.le_of_not_lt hkl))
      clear hkl
      go_wp2_with (refine wpList_store_blk (g := res) (k := 0) rfl 83 (.tmp 4) (.tmp 46) rfl [iv 0, iv 0, iv 0] rfl rfl HR2.out (by kernel_rfl) (by simp) (by simp [Value.oneCell']) ?_)
      intro w5 hB5 hO5
      have HB5 := Lib.hid (show Blk w5 res 83 #[iv 0, iv 0, iv 0] by simpa using hB5)
      have HO5 := Lib.hid (only_fresh (HO.out.trans (HOK.out.mono (by simp))) hO5 HRG.out)
      have HD5 := Lib.hid (HD2.out.far hO5 HLT.out)
      clear hB5 hO5
      go_wp2
      refine bodyPost_ret (results1 rfl (res_blk (cs := [iv 0, iv 0, iv 0]) Try.underlying83 (by kernel_rfl) rfl HB5.out)) rfl ?_
      refine ⟨?_, HD5.out, HO5.out⟩
      rw [show (p.op .rm).flt = (0, 0, 0) from flt_miss (by rw [HN.out, ← HE.out]; exact fun j hj => HX.out j hj)]
      rfl
    have hkz : (k : Int) < (N : Int) := by omega
    have hka : k < (p.op .rm).faults.length := by rw [HN.out]; exact hkl
    have HS2 := Lib.hid (HSL.out.only HOK.out (fun _ _ => by simp))
    obtain ⟨g, o, c', hv, hfm⟩ := HS2.out.form (by omega)
    injection hv with hva hvl hvc
    subst hva
    subst hvc
    clear hvl hfm
    obtain ⟨f0, f1, f2⟩ := fcs_get (p.op .rm).faults k hka
    have y0 := HS2.out.cells_ _ _ f0
    have y1 := HS2.out.cells_ _ _ f1
    have y2 := HS2.out.cells_ _ _ f2
    rw [Addr.add_lit] at y0 y1 y2
    rw [← Nat.add_assoc] at y1 y2
    have e8 := wrap_sm (by have := HNM.out; omega) hkl
    have HKL := Lib.hid hkl
    have HKA := Lib.hid hka
    obtain ⟨x, hx⟩ : ∃ x, (p.op .rm).faults.getD k (0, 0, 0) = x := ⟨_, rfl⟩
    rw [hx] at y0 y1 y2
    have HXX := Lib.hid hx
    clear f0 f1 f2 hka hkl hx
    go_wp2_with (refine wpList_store_blk (g := wr.heap.size) (k := 0) rfl 83 (.tmp 6) (.tmp 36) rfl [iv x.1, iv x.2.1, iv x.2.2] rfl rfl (Blk.new wr 83 #[iv 0, iv 0, iv 0]) (by kernel_rfl) (by simp) (by simp [Value.oneCell']) ?_)
    intro w5 hB5 hO5
    have HB5 := Lib.hid (show Blk w5 wr.heap.size 83 #[iv x.1, iv x.2.1, iv x.2.2] by simpa using hB5)
    have HO5 := Lib.hid (only_new hO5)
    have HNE := Lib.hid (Nat.ne_of_lt HR2.out.lt)
    clear hB5 hO5 y0 y1 y2
    generalize wr.heap.size = xb at *
    have HD5 := Lib.hid (HD2.out.only0 HO5.out)
    have HR5 := Lib.hid (HR2.out.only HO5.out (by simp))
    have z0 := HB5.out.cell 0
    have xl5 := HB5.out.lt
    have x16 := HD5.out.blk.cell 16
    have xl := HD5.out.blk.lt
    simp [dcells] at z0 x16
    have hcs : (x.1 == (p.op .rm).since) = true ∨ (x.1 == (p.op .rm).since) = false := by cases (x.1 == (p.op .rm).since) <;> simp
    rcases hcs with hq | hq
    · have HQ := Lib.hid (show x.1 = (p.op .rm).since by simpa using hq)
      go_wp2_with fail
      go_quiet (fail)
      have HB6 := Lib.hid (HB5.out.drewN nq)
      have HR6 := Lib.hid (HR5.out.drewN nq)
      have HD6 := Lib.hid (HD5.out.only0 ((Only.refl [] w5).drewN nq))
      have HO6 := Lib.hid ((HO.out.trans ((HOK.out.trans HO5.out).mono (by simp))).drewN nq)
      clear z0 xl5 x16 xl
      generalize w5.drewN nq = w6 at *
      have z0 := HB6.out.cell 0
      have z1 := HB6.out.cell 1
      have z2 := HB6.out.cell 2
      simp at z0 z1 z2
      go_wp2_with (refine wpList_store_blk (g := res) (k := 0) rfl 83 (.tmp 4) (.tmp 44) rfl [iv x.1, iv x.2.1, iv x.2.2] rfl rfl HR6.out (by kernel_rfl) (by simp) (by simp [Value.oneCell']) ?_)
      intro w7 hB7 hO7
      have HB7 := Lib.hid (show Blk w7 res 83 #[iv x.1, iv x.2.1, iv x.2.2] by simpa using hB7)
      have HO7 := Lib.hid (only_fresh HO6.out hO7 HRG.out)
      have HD7 := Lib.hid (HD6.out.far hO7 HLT.out)
      clear hB7 hO7
      go_wp2
      refine bodyPost_ret (results1 rfl (res_blk (cs := [iv x.1, iv x.2.1, iv x.2.2]) Try.underlying83 (by kernel_rfl) rfl HB7.out)) rfl ?_
      refine ⟨?_, HD7.out, HO7.out⟩
      rw [show (p.op .rm).flt = x from (flt_hit HKA.out HX.out (by rw [HXX.out]; exact HQ.out)).trans HXX.out]
      rfl
    · have HQ := Lib.hid (show x.1 ≠ (p.op .rm).since by simpa using hq)
      go_wp2_with fail
      go_quiet (fail)
      go_wp2
      go_roundw
      case measure => (try rw [e8]); exact meas HKL.out
      case rel => exact ⟨k + 1, by first | rfl | rw [e8], Lib.hid HKL.out, Lib.hid ((HOK.out.trans HO5.out).drewN _), Lib.hid (fun j hj => by
        rcases Nat.lt_succ_iff_lt_or_eq.1 hj with hj | hj
        · exact HX.out j hj
        · subst hj; rw [HXX.out]; exact HQ.out)⟩
set_option maxRecDepth 100000 in
set_option maxHeartbeats 3200000 in
theorem op_ds (h : DM w F d p nb lb pv fv) (hlen : p.faults.length ≤ 1048576) : Calls Try.prog 32 #[cp d, .pointer (some ⟨d, 12, none⟩)] w fun e w' =>
    e = .returned (fltV (p.op .ds).flt) ∧ DM w' F d (p.op .ds) nb lb pv fv ∧ Only [d] w w' := by
  have H := Lib.hid h
  have HLL := Lib.hid hlen
  have hb1 := h.blk.alloc (.cells #[iv 0, iv 0, iv 0] 83)
  have hr := Blk.new w 83 #[iv 0, iv 0, iv 0]
  have xk := hb1.cell 12
  have x13 := hb1.cell 13
  have x16 := hb1.cell 16
  have xf := hb1.frozen
  have xl := hb1.lt
  have hne : d ≠ w.heap.size := Nat.ne_of_lt h.blk.lt
  simp [dcells] at xk x13 x16
  have HD := Lib.hid (show DM ((((w.alloc (.cells #[iv 0, iv 0, iv 0] 83)).setCell ⟨d, 12, none⟩ (iv (wrap64 (p.cnt.ds + 1)))).setCell ⟨d, 13, none⟩ (iv (wrap64 (p.cnt.all + 1)))).setCell ⟨d, 16, none⟩ (iv (wrap64 (p.since + 1)))) F d (p.op .ds) nb lb pv fv from
    h.nums (by have := ((hb1.set_ 12 (iv (wrap64 (p.cnt.ds + 1)))).set_ 13 (iv (wrap64 (p.cnt.all + 1)))).set_ 16 (iv (wrap64 (p.since + 1))); simpa [dcells, PD.op, Cnt.up] using this) (((((Only.refl [d] w).alloc _).setCell (.inl (by simp)) _).setCell (.inl (by simp)) _).setCell (.inl (by simp)) _) rfl rfl rfl rfl)
  have HR := Lib.hid (show Blk ((((w.alloc (.cells #[iv 0, iv 0, iv 0] 83)).setCell ⟨d, 12, none⟩ (iv (wrap64 (p.cnt.ds + 1)))).setCell ⟨d, 13, none⟩ (iv (wrap64 (p.cnt.all + 1)))).setCell ⟨d, 16, none⟩ (iv (wrap64 (p.since + 1)))) w.heap.size 83 #[iv 0, iv 0, iv 0] from
    ((hr.far (by simpa using hne.symm) _).far (by simpa using hne.symm) _).far (by simpa using hne.symm) _)
  have HO := Lib.hid (show Only [d] w ((((w.alloc (.cells #[iv 0, iv 0, iv 0] 83)).setCell ⟨d, 12, none⟩ (iv (wrap64 (p.cnt.ds + 1)))).setCell ⟨d, 13, none⟩ (iv (wrap64 (p.cnt.all + 1)))).setCell ⟨d, 16, none⟩ (iv (wrap64 (p.since + 1)))) from ((((Only.refl [d] w).alloc _).setCell (.inl (by simp)) _).setCell (.inl (by simp)) _).setCell (.inl (by simp)) _)
  have HF := Lib.hid (show (p.op .ds).faults = p.faults ∧ (p.op .ds).since = wrap64 (p.since + 1) from ⟨rfl, rfl⟩)
  clear h hb1 hr hlen
  go_enter Try.func32, Try.ntmps32
  go_upto_region 4 with fail
  clear xk x13 x16 xf xl
  generalize ((((w.alloc (.cells #[iv 0, iv 0, iv 0] 83)).setCell ⟨d, 12, none⟩ (iv (wrap64 (p.cnt.ds + 1)))).setCell ⟨d, 13, none⟩ (iv (wrap64 (p.cnt.all + 1)))).setCell ⟨d, 16, none⟩ (iv (wrap64 (p.since + 1)))) = w2 at *
  have HLT := Lib.hid H.out.lts
  obtain ⟨res, hres⟩ : ∃ res, w.heap.size = res := ⟨_, rfl⟩
  rw [hres] at HR HLT hne ⊢
  have HRG := Lib.hid (show w.heap.size ≤ res from Nat.le_of_eq hres)
  clear hres hne
  obtain ⟨fa, fc, hfv, hsh⟩ := HD.out.flt.shape
  subst hfv
  clear hsh
  obtain ⟨N, hN⟩ : ∃ N, (p.op .ds).faults.length = N := ⟨_, rfl⟩
  have HN := Lib.hid hN
  have HNM := Lib.hid (show N ≤ 1048576 by rw [← hN]; exact HLL.out)
  have HSL := Lib.hid HD.out.flt
  rw [hN] at HSL
  have x15 := HD.out.blk.cell 15
  have xl := HD.out.blk.lt
  simp [dcells] at x15
  rw [hN] at x15
  clear hN
  go_wp2
  clear x15 xl
  go_loopw [33] (fun z wr => ∃ k : Nat, z = .int .i64 k ∧ Hid (k ≤ N) ∧ Hid (Only [] w2 wr) ∧ Hid (∀ j, j < k → ((p.op .ds).faults.getD j (0, 0, 0)).1 ≠ (p.op .ds).since)) (fun z _ => N - (intOf z).toNat)
  case atStart => exact ⟨0, rfl, Lib.hid (Nat.zero_le _), Lib.hid (Only.refl _ _), Lib.hid (fun j h => absurd h (Nat.not_lt_zero _))⟩
  case round =>
    obtain ⟨k, rfl, HK, HOK, HX⟩ := hrel
    have HR2 := Lib.hid (HR.out.only HOK.out (by simp))
    have HD2 := Lib.hid (HD.out.only0 HOK.out)
    by_cases hkl : k < N
    case neg =>
      have hkz : ¬ (k : Int) < (N : Int) := by omega
      have HE := Lib.hid (show k = N from Nat.le_antisymm HK.out (Nat.le_of_not_lt hkl))
      clear hkl
      go_wp2_with (refine wpList_store_blk (g := res) (k := 0) rfl 83 (.tmp 4) (.tmp 46) rfl [iv 0, iv 0, iv 0] rfl rfl HR2.out (by kernel_rfl) (by simp) (by simp [Value.oneCell']) ?_)
      intro w5 hB5 hO5
      have HB5 := Lib.hid (show Blk w5 res 83 #[iv 0, iv 0, iv 0] by simpa using hB5)
      have HO5 := Lib.hid (only_fresh (HO.out.trans (HOK.out.mono (by simp))) hO5 HRG.out)
      have HD5 := Lib.hid (HD2.out.far hO5 HLT.out)
      clear hB5 hO5
      go_wp2
      refine bodyPost_ret (results1 rfl (res_blk (cs := [iv 0, iv 0, iv 0]) Try.underlying83 (by kernel_rfl) rfl HB5.out)) rfl ?_
      refine ⟨?_, HD5.out, HO5.out⟩
      rw [show (p.op .ds).flt = (0, 0, 0) from flt_miss (by rw [HN.out, ← HE.out]; exact fun j hj => HX.out j hj)]
      rfl
    have hkz : (k : Int) < (N : Int) := by omega
    have hka : k < (p.op .ds).faults.length := by rw [HN.out]; exact hkl
    have HS2 := Lib.hid (HSL.out.only HOK.out (fun _ _ => by simp))
    obtain ⟨g, o, c', hv, hfm⟩ := HS2.out.form (by omega)
    injection hv with hva hvl hvc
    subst hva
    subst hvc
    clear hvl hfm
    obtain ⟨f0, f1, f2⟩ := fcs_get (p.op .ds).faults k hka
    have y0 := HS2.out.cells_ _ _ f0
    have y1 := HS2.out.cells_ _ _ f1
    have y2 := HS2.out.cells_ _ _ f2
    rw [Addr.add_lit] at y0 y1 y2
    rw [← Nat.add_assoc] at y1 y2
    have e8 := wrap_sm (by have := HNM.out; omega) hkl
    have HKL := Lib.hid hkl
    have HKA := Lib.hid hka
    obtain ⟨x, hx⟩ : ∃ x, (p.op .ds).faults.getD k (0, 0, 0) = x := ⟨_, rfl⟩
    rw [hx] at y0 y1 y2
    have HXX := Lib.hid hx
    clear f0 f1 f2 hka hkl hx
    go_wp2_with (refine wpList_store_blk (g := wr.heap.size) (k := 0) rfl 83 (.tmp 6) (.tmp 36) rfl [iv x.1, iv x.2.1, iv x.2.2] rfl rfl (Blk.new wr 83 #[iv 0, iv 0, iv 0]) (by kernel_rfl) (by simp) (by simp [Value.oneCell']) ?_)
    intro w5 hB5 hO5
    have HB5 := Lib.hid (show Blk w5 wr.heap.size 83 #[iv x.1, iv x.2.1, iv x.2.2] by simpa using hB5)
    have HO5 := Lib.hid (only_new hO5)
    have HNE := Lib.hid (Nat.ne_of_lt HR2.out.lt)
    clear hB5 hO5 y0 y1 y2
    generalize wr.heap.size = xb at *
    have HD5 := Lib.hid (HD2.out.only0 HO5.out)
    have HR5 := Lib.hid (HR2.out.only HO5.out (by simp))
    have z0 := HB5.out.cell 0
    have xl5 := HB5.out.lt
    have x16 := HD5.out.blk.cell 16
    have xl := HD5.out.blk.lt
    simp [dcells] at z0 x16
    have hcs : (x.1 == (p.op .ds).since) = true ∨ (x.1 == (p.op .ds).since) = false := by cases (x.1 == (p.op .ds).since) <;> simp
    rcases hcs with hq | hq
    · have HQ := Lib.hid (show x.1 = (p.op .ds).since by simpa using hq)
      go_wp2_with fail
      go_quiet (fail)
      have HB6 := Lib.hid (HB5.out.drewN nq)
      have HR6 := Lib.hid (HR5.out.drewN nq)
      have HD6 := Lib.hid (HD5.out.only0 ((Only.refl [] w5).drewN nq))
      have HO6 := Lib.hid ((HO.out.trans ((HOK.out.trans HO5.out).mono (by simp))).drewN nq)
      clear z0 xl5 x16 xl
      generalize w5.drewN nq = w6 at *
      have z0 := HB6.out.cell 0
      have z1 := HB6.out.cell 1
      have z2 := HB6.out.cell 2
      simp at z0 z1 z2
      go_wp2_with (refine wpList_store_blk (g := res) (k := 0) rfl 83 (.tmp 4) (.tmp 44) rfl [iv x.1, iv x.2.1, iv x.2.2] rfl rfl HR6.out (by kernel_rfl) (by simp) (by simp [Value.oneCell']) ?_)
      intro w7 hB7 hO7
      have HB7 := Lib.hid (show Blk w7 res 83 #[iv x.1, iv x.2.1, iv x.2.2] by simpa using hB7)
      have HO7 := Lib.hid (only_fresh HO6.out hO7 HRG.out)
      have HD7 := Lib.hid (HD6.out.far hO7 HLT.out)
      clear hB7 hO7
      go_wp2
      refine bodyPost_ret (results1 rfl (res_blk (cs := [iv x.1, iv x.2.1, iv x.2.2]) Try.underlying83 (by kernel_rfl) rfl HB7.out)) rfl ?_
      refine ⟨?_, HD7.out, HO7.out⟩
      rw [show (p.op .ds).flt = x from (flt_hit HKA.out HX.out (by rw [HXX.out]; exact HQ.out)).trans HXX.out]
      rfl
    · have HQ := Lib.hid (show x.1 ≠ (p.op .ds).since by simpa using hq)
      go_wp2_with fail
      go_quiet (fail)
      go_wp2
      go_roundw
      case measure => (try rw [e8]); exact meas HKL.out
      case rel => exact ⟨k + 1, by first | rfl | rw [e8], Lib.hid HKL.out, Lib.hid ((HOK.out.trans HO5.out).drewN _), Lib.hid (fun j hj => by
        rcases Nat.lt_succ_iff_lt_or_eq.1 hj with hj | hj
        · exact HX.out j hj
        · subst hj; rw [HXX.out]; exact HQ.out)⟩
end
end Go.Proofs.Ythekilgolelomaa
