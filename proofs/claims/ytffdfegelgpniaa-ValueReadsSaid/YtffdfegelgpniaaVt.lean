/-
  Read.
-/
import Derived.Test.YtffdfegelgpniaaVs
set_option linter.unusedSimpArgs false
set_option linter.unusedVariables false
namespace Go.Proofs.Ytffdfegelgpniaa
open Go.RowKit Go.Fl

theorem list_val : ∀ n, LstOk n ∧ ValOk n := by
  intro n
  induction n using Nat.strongRecOn with
  | _ n ih => exact ⟨list_step n fun m hm => (ih m hm).2, val_step n fun m hm => (ih m hm).1⟩
/-- What bytes are read as. -/
def pread (bs : List Nat) : PR := match bs[0]? with
  | none => .bad bs.length 2
  | some c => pval (2 * bs.length + 4) bs c 0 1 65536
def ReadPost (w : World) (res : PR) (e : Ending) (w' : World) : Prop :=
  match res with
  | .bad p c => e = .returned (.tuple #[.agg zeroV.toArray, iv p, iv c]) ∧ Only [] w w'
  | .ok v q _ => ∃ cs S, e = .returned (.tuple #[.agg cs.toArray, iv q, iv 0]) ∧ VO w' v cs S ∧ S.Nodup ∧ (∀ g ∈ S, w.heap.size ≤ g) ∧ Only [] w w'
def EPhi (a b c g : Nat) (Z : Array Value) (q : Nat) : Nat → Value → World → Prop
  | 0, v, _ => v = .agg Z
  | 1, v, _ => v = .pointer (some ⟨g, 0, none⟩)
  | 2, v, _ => v = .pointer (some ⟨g, 0, none⟩)
  | 3, v, _ => v = .pointer (some ⟨g, 1, none⟩)
  | 4, v, _ => v = iv q
  | 5, _, w' => Blk w' a 33 Z
  | 6, _, w' => Blk w' b 3 #[iv q]
  | 7, _, w' => Blk w' c 34 #[iv 0]
  | _, _, _ => True
theorem E_st {a b c g : Nat} {Z : Array Value} {q : Nat} (hZ : Z.size = 5) (i : Nat) (v : Value) (w w' : World) (h : EPhi a b c g Z q i v w) (k : R3 a b c Z (iv q) (iv 0) w w') : EPhi a b c g Z q i v w' := by
  match i, h with
  | 0, h => exact h
  | 1, h => exact h
  | 2, h => exact h
  | 3, h => exact h
  | 4, h => exact h
  | 5, h =>
    obtain ⟨cs, h1, _, h2⟩ := k.ra _ h hZ
    rw [h2 rfl] at h1
    exact h1
  | 6, h =>
    obtain ⟨u, h1, h2⟩ := k.rb _ h
    rw [h2 rfl] at h1
    exact h1
  | 7, h =>
    obtain ⟨u, h1, h2⟩ := k.rc _ h
    rw [h2 rfl] at h1
    exact h1
  | n + 8, _ => trivial
theorem res_cell3 {w : World} {tmps : Array Value} {g tm : Nat} {n : Int} (h : tmps.getD tm undef = .pointer (some ⟨g, 0, none⟩)) (hb : Blk w g 3 #[iv n]) : Res Try.prog w tmps (.cell tm 3) (iv n) := by
  have x0 := hb.cell 0
  simp at x0
  unfold Res resRun
  dsimp only
  rw [h]
  simp [x0, go_sem]
theorem res_cell34 {w : World} {tmps : Array Value} {g tm : Nat} {n : Int} (h : tmps.getD tm undef = .pointer (some ⟨g, 0, none⟩)) (hb : Blk w g 34 #[iv n]) : Res Try.prog w tmps (.cell tm 34) (iv n) := by
  have x0 := hb.cell 0
  simp at x0
  unfold Res resRun
  dsimp only
  rw [h]
  simp [x0, go_sem]
set_option maxRecDepth 100000 in
set_option maxHeartbeats 3200000 in
theorem read_ok {w : World} {F : Nat → Prop} {bs : List Nat} {s : Value} (h : BytesV w F bs s) (hbl : bs.length ≤ 2 ^ 40) : Calls Try.prog 11 #[s] w (ReadPost w (pread bs)) := by
  have hmf : ∀ (fn : Fn) (first cap : Array Value) (w : World), (Instr.makeFunc fn first cap).run Try.prog w = .ok (.func fn first cap) w := fun _ _ _ _ => rfl
  have HBB := Lib.hid (show ∀ c ∈ bs, c < 256 by obtain ⟨_, _, _, _, _, hb, _⟩ := h; exact hb)
  have hf : ∃ a cap, s = .slice a bs.length cap := by obtain ⟨a, cap, e, _⟩ := h; exact ⟨a, cap, e⟩
  obtain ⟨G, hG⟩ : ∃ G : Nat → Prop, G = fun g => F g ∧ g < w.heap.size := ⟨_, rfl⟩
  have HG := Lib.hid (show ∀ g, G g → g < w.heap.size by rw [hG]; exact fun _ h => h.2)
  have HBV := Lib.hid (show BytesV w G bs s by rw [hG]; exact h.keep (Nat.le_refl _) (fun _ _ _ => rfl) fun g hf hg => ⟨hf, hg⟩)
  clear h hG
  obtain ⟨sa, sc, rfl⟩ := hf
  obtain ⟨w4, hw4⟩ : ∃ x : World, x = (((w.alloc (.cells zeroV.toArray 33)).alloc (.cells #[.int .i64 0] 3)).alloc (.cells #[.int .i64 0] 34)).alloc (.cells #[.slice sa bs.length sc, .int .i64 0, .int .i64 65536] 59) := ⟨_, rfl⟩
  have HW4 := Lib.hid hw4
  have HO := Lib.hid (show Only [] w w4 by rw [hw4]; exact ((((Only.refl _ w).alloc _).alloc _).alloc _).alloc _)
  have HA := Lib.hid (show Blk w4 w.heap.size 33 zeroV.toArray by rw [hw4]; exact (((Blk.new _ _ _).alloc _).alloc _).alloc _)
  have HB := Lib.hid (show Blk w4 (w.heap.size + 1) 3 #[iv 0] by rw [hw4]; have := Blk.new (w.alloc (.cells zeroV.toArray 33)) 3 #[iv 0]; rw [show (w.alloc (.cells zeroV.toArray 33)).heap.size = w.heap.size + 1 by simp] at this; exact (this.alloc _).alloc _)
  have HC := Lib.hid (show Blk w4 (w.heap.size + 1 + 1) 34 #[iv 0] by rw [hw4]; have := Blk.new ((w.alloc (.cells zeroV.toArray 33)).alloc (.cells #[.int .i64 0] 3)) 34 #[iv 0]; rw [show ((w.alloc (.cells zeroV.toArray 33)).alloc (.cells #[.int .i64 0] 3)).heap.size = w.heap.size + 1 + 1 by simp] at this; exact this.alloc _)
  have HP := Lib.hid (show PS w4 G (w.heap.size + 1 + 1 + 1) bs (.slice sa bs.length sc) 0 65536 from ⟨by rw [hw4]; have := Blk.new (((w.alloc (.cells zeroV.toArray 33)).alloc (.cells #[.int .i64 0] 3)).alloc (.cells #[.int .i64 0] 34)) 59 #[.slice sa bs.length sc, iv 0, iv 65536]; rw [show (((w.alloc (.cells zeroV.toArray 33)).alloc (.cells #[.int .i64 0] 3)).alloc (.cells #[.int .i64 0] 34)).heap.size = w.heap.size + 1 + 1 + 1 by simp] at this; exact this, HBV.out.only HO.out (fun _ _ => by simp), fun hg => by have := HG.out _ hg; omega, Nat.zero_le _⟩)
  have HN := Lib.hid (next_ok HP.out)
  clear hw4
  go_enter_defers Try.func11, Try.ntmps11
  go_wp2_with fail
  rw [← HW4.out]
  refine HN.out.mono ?_
  clear HN
  intro e w5 hn
  unfold NextPost at hn
  have HPR := Lib.hid (show pread bs = match bs[0]? with | none => .bad bs.length 2 | some c => pval (2 * bs.length + 4) bs c 0 1 65536 from rfl)
  by_cases h0 : 0 < bs.length
  case neg =>
    rw [List.getElem?_eq_none (by omega)] at hn HPR
    obtain ⟨rfl, ho⟩ := hn
    have hcw := catch_wrong (p := bs.length) (e := 2) (HA.out.only ho (by simp <;> omega)) rfl (HB.out.only ho (by simp <;> omega)) (HC.out.only ho (by simp <;> omega)) (by omega) (by omega) (by omega)
    have HCW := Lib.hid hcw
    have HO5 := Lib.hid (HO.out.trans' ho (fun i hi => .inr (by simp at hi; omega)))
    clear ho hcw
    go_wp2
    refine leaves_cons (f := 35) (args := #[.pointer (some ⟨w.heap.size, 0, none⟩), .pointer (some ⟨w.heap.size + 1, 0, none⟩), .pointer (some ⟨w.heap.size + 1 + 1, 0, none⟩)]) (by simp) (by simp [go_sem]) ?_
    refine HCW.out.mono ?_
    rintro e u' w8 ⟨rfl, rfl, ha, hb, hc, ho⟩
    show ∃ v, _ ∧ _
    refine ⟨_, results3 rfl (res_blk (cs := zeroV) Try.underlying33 (by kernel_rfl) rfl ha) (res_cell3 rfl hb) (res_cell34 rfl hc), ?_⟩
    rw [HPR.out]
    exact ⟨rfl, HO5.out.trans' ho (fun i hi => .inr (by simp at hi; omega))⟩
  rw [List.getElem?_eq_getElem h0] at hn HPR
  obtain ⟨rfl, hps, ho⟩ := hn
  have hcb := HBB.out _ (List.getElem_mem h0)
  have HPR := Lib.hid (show pread bs = pval (2 * bs.length + 4) bs bs[0] 0 1 65536 from HPR.out)
  have hw45 := hps.blk.lt
  have HV := Lib.hid ((list_val (2 * bs.length + 4)).2 w5 G (w.heap.size + 1 + 1 + 1) bs (.slice sa bs.length sc) bs[0] 0 1 65536 hps (by omega) (by omega) hbl (by omega) hcb (by omega))
  have HO5 := Lib.hid (HO.out.trans' ho (fun i hi => .inr (by simp at hi; omega)))
  have HA5 := Lib.hid (HA.out.only ho (by simp <;> omega))
  have HB5 := Lib.hid (HB.out.only ho (by simp <;> omega))
  have HC5 := Lib.hid (HC.out.only ho (by simp <;> omega))
  clear hps ho HA HB HC HO HP
  generalize hc0 : bs[0] = c at *
  clear hc0
  generalize hres : pval (2 * bs.length + 4) bs c 0 1 65536 = res at *
  clear hres
  go_wp2_with fail
  refine HV.out.mono ?_
  clear HV
  intro e w6 hv
  cases res with
  | bad p0 e0 =>
    obtain ⟨rfl, ho⟩ := hv
    have HCW := Lib.hid (catch_wrong (p := p0) (e := e0) (HA5.out.only ho (by simp <;> omega)) rfl (HB5.out.only ho (by simp <;> omega)) (HC5.out.only ho (by simp <;> omega)) (by omega) (by omega) (by omega))
    have HO6 := Lib.hid (HO5.out.trans' ho (fun i hi => .inr (by simp at hi; omega)))
    clear ho
    go_wp2
    refine leaves_cons (f := 35) (args := #[.pointer (some ⟨w.heap.size, 0, none⟩), .pointer (some ⟨w.heap.size + 1, 0, none⟩), .pointer (some ⟨w.heap.size + 1 + 1, 0, none⟩)]) (by simp) (by simp [go_sem]) ?_
    refine HCW.out.mono ?_
    rintro e u' w8 ⟨rfl, rfl, ha, hb, hc, ho⟩
    show ∃ v, _ ∧ _
    refine ⟨_, results3 rfl (res_blk (cs := zeroV) Try.underlying33 (by kernel_rfl) rfl ha) (res_cell3 rfl hb) (res_cell34 rfl hc), ?_⟩
    rw [HPR.out]
    exact ⟨rfl, HO6.out.trans' ho (fun i hi => .inr (by simp at hi; omega))⟩
  | ok v q rm =>
    obtain ⟨cs, S, rfl, hvo, hnd, hge, hps, ho⟩ := hv
    obtain ⟨k0, i0, r0, t0, sa0, sn0, sc0, rfl⟩ := hvo.form
    have HVO := Lib.hid (And.intro hvo (And.intro hnd hge))
    have HP6 := Lib.hid hps
    have HO6 := Lib.hid (HO5.out.trans' ho (fun i hi => .inr (by simp at hi; omega)))
    have HA6 := Lib.hid (HA5.out.only ho (by simp <;> omega))
    have HB6 := Lib.hid (HB5.out.only ho (by simp <;> omega))
    have HC6 := Lib.hid (HC5.out.only ho (by simp <;> omega))
    clear hvo hnd hge hps ho
    go_wp2_with (refine wpList_store_blk rfl 33 (.tmp 2) (.tmp 13) rfl [iv k0, iv i0, fv r0, .string t0, .slice sa0 sn0 sc0] rfl rfl HA6.out (by kernel_rfl) (by simp) (by simp [Value.oneCell']) ?_)
    intro w7 hA7 hO7
    have HA7 := Lib.hid hA7
    have HO7 := Lib.hid (HO6.out.trans' hO7 (fun i hi => .inr (by simp at hi; omega)))
    have HB7 := Lib.hid (HB6.out.only hO7 (by simp <;> omega))
    have HC7 := Lib.hid (HC6.out.only hO7 (by simp <;> omega))
    have HP7 := Lib.hid (HP6.out.far hO7 (by omega) (fun g hg => by have := HG.out g hg; omega))
    have HV7 := Lib.hid (HVO.out.1.only hO7 (fun g hg => by have := HVO.out.2.2 g hg; simp; omega))
    clear hA7 hO7
    go_wp2
    have hZ : (#[iv k0, iv i0, fv r0, .string t0, .slice sa0 sn0 sc0] : Array Value).size = 5 := rfl
    refine Lex.wp_region_each (by kernel_rfl) [[], [], [1], [2], [3], [0], [4], []] (by kernel_rfl) (by rfl) (R3 w.heap.size (w.heap.size + 1) (w.heap.size + 1 + 1) #[iv k0, iv i0, fv r0, .string t0, .slice sa0 sn0 sc0] (iv q) (iv 0)) R3.refl (fun _ _ _ => R3.trans)
      (EPhi w.heap.size (w.heap.size + 1) (w.heap.size + 1 + 1) (w.heap.size + 1 + 1 + 1) #[iv k0, iv i0, fv r0, .string t0, .slice sa0 sn0 sc0] q) (fun i v w w' h k => E_st hZ i v w w' h k) ?_ ?_
    · intro i o ho w8 hR
      have HR := Lib.hid hR
      clear hR
      rcases i with _ | _ | _ | _ | _ | _ | _ | _ | i
      · injection ho with ho
        subst ho
        obtain ⟨ca, hba, _, hcz⟩ := HR.out.ra _ HA7.out.drew hZ
        obtain rfl := hcz rfl
        have x0 := hba.cell 0
        have x1 := hba.cell 1
        have x2 := hba.cell 2
        have x3 := hba.cell 3
        have x4 := hba.cell 4
        simp at x0 x1 x2 x3 x4
        clear hba hcz
        show wpList _ _ _ _ _ _
        go_wp2
        exact ⟨rfl, R3.refl _, rfl⟩
      · injection ho with ho
        subst ho
        show wpList _ _ _ _ _ _
        go_wp2
        exact ⟨rfl, R3.refl _, rfl⟩
      · injection ho with ho
        subst ho
        intro v hv
        obtain rfl : v = .pointer (some ⟨w.heap.size + 1 + 1 + 1, 0, none⟩) := hv
        simp only [Lex.dstOf, List.getElem?_cons_zero, List.getElem?_cons_succ, Option.bind_some]
        show wpList _ _ _ _ _ _
        go_wp2
        exact ⟨rfl, R3.refl _, rfl⟩
      · injection ho with ho
        subst ho
        intro v hv
        obtain rfl : v = .pointer (some ⟨w.heap.size + 1 + 1 + 1, 0, none⟩) := hv
        simp only [Lex.dstOf, List.getElem?_cons_zero, List.getElem?_cons_succ, Option.bind_some]
        show wpList _ _ _ _ _ _
        go_wp2
        exact ⟨rfl, R3.refl _, rfl⟩
      · injection ho with ho
        subst ho
        have x0 := (HP7.out.blk.drew.only HR.out.only (by simp; omega)).cell 1
        simp at x0
        intro v hv
        obtain rfl : v = .pointer (some ⟨w.heap.size + 1 + 1 + 1, 1, none⟩) := hv
        simp only [Lex.dstOf, List.getElem?_cons_zero, List.getElem?_cons_succ, Option.bind_some]
        show wpList _ _ _ _ _ _
        go_wp2
        exact ⟨rfl, R3.refl _, rfl⟩
      · injection ho with ho
        subst ho
        obtain ⟨ca, hba, _, hcz⟩ := HR.out.ra _ HA7.out.drew hZ
        obtain rfl := hcz rfl
        intro v hv
        obtain rfl : v = .agg #[iv k0, iv i0, fv r0, .string t0, .slice sa0 sn0 sc0] := hv
        simp only [Lex.dstOf, List.getElem?_cons_zero, List.getElem?_cons_succ, Option.bind_some]
        show wpList _ _ _ _ _ _
        go_wp2_with (refine wpList_store_blk rfl 33 (.tmp 2) (.tmp 14) rfl [iv k0, iv i0, fv r0, .string t0, .slice sa0 sn0 sc0] rfl rfl hba (by kernel_rfl) (by simp) (by simp [Value.oneCell']) ?_)
        intro w9 hA2 hO2
        have HA3 := Lib.hid (show Blk w9 w.heap.size 33 #[iv k0, iv i0, fv r0, .string t0, .slice sa0 sn0 sc0] from hA2)
        have HO2 := Lib.hid hO2
        clear hA2 hO2 hba
        go_wp2
        exact ⟨HA3.out, R3.setA (by omega) (by omega) HO2.out HA3.out rfl, rfl⟩
      · injection ho with ho
        subst ho
        obtain ⟨u, hbb, _⟩ := HR.out.rb _ HB7.out.drew
        have x0 := hbb.cell 0
        have f0 := hbb.frozen 0
        have l0 := hbb.lt
        have HBB2 := Lib.hid (show Blk (w8.setCell ⟨w.heap.size + 1, 0, none⟩ (iv q)) (w.heap.size + 1) 3 #[iv q] from hbb.set_ 0 _)
        simp at x0
        intro v hv
        obtain rfl : v = iv q := hv
        simp only [Lex.dstOf, List.getElem?_cons_zero, List.getElem?_cons_succ, Option.bind_some]
        clear hbb
        show wpList _ _ _ _ _ _
        go_wp2
        exact ⟨HBB2.out, R3.setB (by omega) (by omega) ((Only.refl _ _).setCell (.inl (by simp)) _) HBB2.out, rfl⟩
      · injection ho with ho
        subst ho
        obtain ⟨u, hbb, _⟩ := HR.out.rc _ HC7.out.drew
        have x0 := hbb.cell 0
        have f0 := hbb.frozen 0
        have l0 := hbb.lt
        have HBB2 := Lib.hid (show Blk (w8.setCell ⟨w.heap.size + 1 + 1, 0, none⟩ (iv 0)) (w.heap.size + 1 + 1) 34 #[iv 0] from hbb.set_ 0 _)
        simp at x0
        clear hbb
        show wpList _ _ _ _ _ _
        go_wp2
        exact ⟨HBB2.out, R3.setC (by omega) (by omega) ((Only.refl _ _).setCell (.inl (by simp)) _) HBB2.out, rfl⟩
      · cases ho
    · intro w8 hR
      have HO8 := Lib.hid (HO7.out.drew.trans' hR.only (fun i hi => .inr (by simp at hi; omega)))
      have HV8 := Lib.hid ((HV7.out.keep (w' := w7.drew) (fun _ _ => rfl)).only hR.only (fun g hg => by have := HVO.out.2.2 g hg; simp; omega))
      intro v0 h0 v1 h1 v2 h2 v3 h3 v4 h4 v5 h5 v6 h6 v7 h7
      have HH := Lib.hid (show Blk w8 w.heap.size 33 #[iv k0, iv i0, fv r0, .string t0, .slice sa0 sn0 sc0] ∧ Blk w8 (w.heap.size + 1) 3 #[iv q] ∧ Blk w8 (w.heap.size + 1 + 1) 34 #[iv 0] from ⟨h5, h6, h7⟩)
      clear h0 h1 h2 h3 h4 h5 h6 h7 hR
      simp only [Lex.dstOf, List.getElem?_cons_zero, List.getElem?_cons_succ, Option.bind_some, Lex.WithDeps]
      go_wp2
      refine leaves_cons (f := 35) (args := #[.pointer (some ⟨w.heap.size, 0, none⟩), .pointer (some ⟨w.heap.size + 1, 0, none⟩), .pointer (some ⟨w.heap.size + 1 + 1, 0, none⟩)]) (by simp) (by simp [go_sem]) ?_
      refine (catch_idle _ _ _ w8).mono ?_
      rintro e u' w9 ⟨rfl, rfl, rfl⟩
      show ∃ v, _ ∧ _
      refine ⟨_, results3 rfl (res_blk (cs := [iv k0, iv i0, fv r0, .string t0, .slice sa0 sn0 sc0]) Try.underlying33 (by kernel_rfl) rfl HH.out.1) (res_cell3 rfl HH.out.2.1) (res_cell34 rfl HH.out.2.2), ?_⟩
      rw [HPR.out]
      exact ⟨[iv k0, iv i0, fv r0, .string t0, .slice sa0 sn0 sc0], S, rfl, HV8.out, HVO.out.2.1, (fun g hg => by have := HVO.out.2.2 g hg; omega), HO8.out⟩
end Go.Proofs.Ytffdfegelgpniaa
