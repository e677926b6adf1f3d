/-
  ClockAll: do both tell the same?
-/
import Derived.Test.YtjnhplgdbdneiaaGc
set_option linter.unusedSimpArgs false
set_option linter.unusedVariables false
namespace Go.Proofs.Ytjnhplgdbdneiaa
open Go.RowKit Go.Fl

theorem rel_next {l L : List Tm} (h : Rel l L) : nextV l = nextV L ∧ nextB l = nextB L := by
  have hl := h.len
  cases L with
  | nil =>
    obtain rfl : l = [] := List.length_eq_zero_iff.1 hl
    exact ⟨rfl, rfl⟩
  | cons x L =>
    have h0 := h.head
    have hne : l ≠ [] := fun e => by rw [e] at hl; cases hl
    unfold nextV nextB
    rw [h0, show (x :: L).getD 0 (0, 0) = x from rfl]
    simp [hne]
theorem told {l L d : List Tm} (h : Rel l L) (hp : d.Perm l) (hs : SR d 0 l.length) : d = L := by
  have hpL := hp.trans h.perm
  refine srt_unique (SR.srt (by rw [hp.length_eq]; exact hs) ?_) h.srt hpL
  have hn : L.Pairwise fun x y => x ≠ y := h.srt.imp fun hxy e => by
    subst e
    rw [tlt_irr] at hxy
    cases hxy
  exact (hpL.pairwise_iff (fun hab => Ne.symm hab)).2 hn
/-- While they are compared. -/
structure T1 (w wr : World) (q now : Nat) (n : Int) (N : Nat) (L d : List Tm) (i : Nat) (v1 v2 vd : Value) : Prop where
  s1 : Sl wr 70 2 v1 N (tcs d)
  len : d.length = N
  eq : ∀ j, i ≤ j → j < N → d.getD j (0, 0) = L.getD j (0, 0)
  s2 : Sl wr 70 2 v2 N (tcs L)
  dk : DK wr q now n L vd
  only : Only [] w wr
section
variable {w wr w3 : World} {q now : Nat} {n : Int} {N : Nat} {L d : List Tm} {i : Nat} {v1 v2 vd : Value}
theorem T1.only0 (h : T1 w wr q now n N L d i v1 v2 vd) (ho : Only [] wr w3) : T1 w w3 q now n N L d i v1 v2 vd :=
  ⟨h.s1.only ho (fun _ _ => by simp), h.len, h.eq, h.s2.only ho (fun _ _ => by simp), h.dk.only0 ho, h.only.trans ho⟩
theorem T1.put {g o c : Nat} {cur : Array Value} (h : T1 w wr q now n N L d i (.slice (some ⟨g, o, none⟩) N c) v2 vd) (hi : i < N) (hc : Blk wr g 70 cur)
    (hB : Blk w3 g 70 (cur.toList.take (o + i * 2) ++ iv 0 :: fv 0 :: cur.toList.drop (o + i * 2 + 2)).toArray) (ho : Only [g] wr w3) (hg : w.heap.size ≤ g) (h2 : v2.ownBlock ≠ some g) (hq : q < w.heap.size) (hv : ∀ k, vd.ownBlock = some k → k < w.heap.size) :
    T1 w w3 q now n N L (d.set i (0, 0)) (i + 1) (.slice (some ⟨g, o, none⟩) N c) v2 vd := by
  refine ⟨TSl.put h.s1 hc (by rw [h.len]; exact hi) h.len hB, by rw [List.length_set]; exact h.len, fun j hj hN => ?_, h.s2.only ho (fun k hk hm => h2 (by rw [List.mem_singleton.1 hm] at hk; exact hk)), ?_, h.only.trans' ho fun k hk => .inr (by rw [List.mem_singleton.1 hk]; exact hg)⟩
  · rw [← h.eq j (by omega) hN, List.getD_eq_getElem?_getD, List.getElem?_set_ne (by omega), List.getD_eq_getElem?_getD]
  · exact ⟨h.dk.blk.only ho (by simp; omega), h.dk.sl.only ho (fun k hk hm => by have := hv k hk; rw [List.mem_singleton.1 hm] at this; omega), h.dk.le⟩
end
set_option maxRecDepth 100000 in
set_option maxHeartbeats 6400000 in
theorem same24 (w : World) {r now q : Nat} {last last2 : Int} {l L : List Tm} {s v : Value} (h : CK w r now last l s) (hd : DK w q now last2 L v) (hr : Rel l L) (hnow : now < 18446744073709551616) (hlen : l.length ≤ 1048576) :
    Calls Try.prog 24 #[cp r, cp q] w fun e w' => e = .returned (.bool true) ∧ Only [] w w' := by
  have HR := Lib.hid hr
  have HLL := Lib.hid hlen
  have HD := Lib.hid hd
  have HNOW := Lib.hid hnow
  have HQ := Lib.hid (next25 w h)
  rw [(rel_next hr).1, (rel_next hr).2] at HQ
  have HQ2 := Lib.hid (next40 w hd)
  have HQ3 := Lib.hid (timers15 h (sort_all (by omega)) hlen)
  have HC := Lib.hid h
  have HNV := Lib.hid (show nextV L < 18446744073709551616 by
    unfold nextV
    split
    · omega
    · rename_i hh
      have hl : 0 < L.length := List.length_pos_iff.2 fun e => hh (.inl e)
      have := hd.le (L.getD 0 (0, 0)) (by rw [getD_getElem hl]; exact List.getElem_mem hl)
      omega)
  clear h hd hr hlen hnow
  go_enter Try.func24, Try.ntmps24
  go_wp2_with fail
  refine HQ.out.mono ?_
  clear HQ
  rintro e w1 ⟨rfl, rfl⟩
  go_wp2_with fail
  refine HQ2.out.mono ?_
  clear HQ2
  rintro e w1 ⟨rfl, rfl⟩
  go_wp2_with fail
  refine HQ3.out.mono ?_
  clear HQ3
  rintro e w2 ⟨v1, d1, rfl, hs1, hp1, hr1, hf1, ho1⟩
  have ed := (told HR.out hp1 hr1).symm
  subst ed
  have HS1 := Lib.hid hs1
  have HF1 := Lib.hid (show ∀ g, v1.ownBlock = some g → w1.heap.size ≤ g from hf1)
  have HO1 := Lib.hid ho1
  have HC1 := Lib.hid (HC.out.only0 ho1)
  obtain ⟨a1, c1, he1, hsh⟩ := hs1.shape
  subst he1
  have HQ := Lib.hid (timers15 HC1.out (sort_all (by have := HLL.out; omega)) HLL.out)
  clear hs1 hp1 hr1 hf1 ho1 hsh
  go_wp2_with fail
  refine HQ.out.mono ?_
  clear HQ
  rintro e w3 ⟨v2, d2, rfl, hs2, hp2, hr2, hf2, ho2⟩
  have ed := (told HR.out hp2 hr2).symm
  subst ed
  have HS2 := Lib.hid hs2
  have HS1' := Lib.hid (HS1.out.only ho2 (fun _ _ => by simp))
  have HNE := Lib.hid (show ∀ g, (Value.slice a1 l.length c1).ownBlock = some g → v2.ownBlock ≠ some g from fun g hg1 hg2 => by
    have := HS1.out.lt g hg1
    have := hf2 g hg2
    omega)
  have HF2 := Lib.hid (show ∀ g, v2.ownBlock = some g → w1.heap.size ≤ g from fun g hg => Nat.le_trans HO1.out.size (hf2 g hg))
  have HO3 := Lib.hid (HO1.out.trans ho2)
  have HC3 := Lib.hid (HC1.out.only0 ho2)
  have HD3 := Lib.hid (HD.out.only0 HO3.out)
  obtain ⟨a2, c2, he2, hsh⟩ := hs2.shape
  subst he2
  clear hs2 hp2 hr2 hf2 ho2 hsh HS1 HO1 HC1 HC
  have HQL := Lib.hid (show q < w1.heap.size ∧ ∀ k, v.ownBlock = some k → k < w1.heap.size from ⟨HD.out.blk.lt, HD.out.sl.lt⟩)
  obtain ⟨av, cv, hev, hsh⟩ := HD3.out.sl.shape
  subst hev
  clear hsh
  obtain ⟨N, hN⟩ : ∃ N, l.length = N := ⟨_, rfl⟩
  have hNL : L.length = N := by rw [← HR.out.len]; exact hN
  have HN := Lib.hid (show N ≤ 1048576 by rw [← hN]; exact HLL.out)
  have HNL := Lib.hid hNL
  have HSV := Lib.hid HD3.out.sl
  rw [hN] at HS1' HS2 HNE ⊢
  rw [hNL] at HD3 HSV HQL
  clear HD
  clear hN hNL
  have x0 := HD3.out.blk.cell 0
  have x1 := HD3.out.blk.cell 1
  have xl := HD3.out.blk.lt
  simp at x0 x1
  have HQ := fun n => Lib.hid (now_ck (HC3.out.only0 ((Only.refl [] w3).drewN n)))
  have HQA : ∀ n, Hid (Calls Try.prog 41 #[fv now, fv now] (w3.drewN n) fun e w' => e = .returned (.bool true) ∧ w' = w3.drewN n) := fun n => Lib.hid (by have := bits41 (w3.drewN n) now now; rwa [decide_eq_true rfl] at this)
  have HQB : ∀ n, Hid (Calls Try.prog 41 #[fv (nextV L), fv (nextV L)] (w3.drewN n) fun e w' => e = .returned (.bool true) ∧ w' = w3.drewN n) := fun n => Lib.hid (by have := bits41 (w3.drewN n) (nextV L) (nextV L); rwa [decide_eq_true rfl] at this)
  have HT : ∀ n, Hid (T1 w1 (w3.drewN n) q now last2 N L L 0 (.slice a1 N c1) (.slice a2 N c2) (.slice av N cv)) := fun n => Lib.hid ⟨HS1'.out, HNL.out, fun _ _ _ => rfl, HS2.out, HD3.out.only0 ((Only.refl [] _).drewN n), HO3.out.drewN n⟩
  generalize nextV L = nv at *
  generalize nextB L = nb at *
  go_wp2_with fail
  go_quiet ((first | (go_at_call 14; exact Calls.quiet_of_same (HQ _).out) | (go_at_call 41; first | exact Calls.quiet_of_same (HQA _).out | exact Calls.quiet_of_same (HQB _).out)))
  have HT0 := HT nq
  clear HQ HQA HQB HT x0 x1 xl
  generalize w3.drewN nq = w4 at *
  go_wp2
  go_loopw [11] (fun z wr => ∃ (i : Nat) (d : List Tm), z = .int .i64 i ∧ Hid (i ≤ N) ∧ Hid (T1 w1 wr q now last2 N L d i (.slice a1 N c1) (.slice a2 N c2) (.slice av N cv))) (fun z _ => N - (intOf z).toNat)
  case atStart => exact ⟨0, L, rfl, Lib.hid (Nat.zero_le _), HT0⟩
  case round =>
    obtain ⟨i, d, rfl, HI, HT⟩ := hrel
    by_cases hi : i < N
    case neg =>
      have hiz : ¬ (i : Int) < (N : Int) := by omega
      have HTT := Lib.hid (And.intro HT.out.s2 (And.intro HT.out.dk HT.out.only))
      clear hi HT0 HT
      go_wp2
      go_loopw [12] (fun z wr => ∃ i : Nat, z = .int .i64 i ∧ Hid (i ≤ N) ∧ Hid (Sl wr 70 2 (.slice a2 N c2) N (tcs L) ∧ DK wr q now last2 L (.slice av N cv) ∧ Only [] w1 wr)) (fun z _ => N - (intOf z).toNat)
      case atStart => exact ⟨0, rfl, Lib.hid (Nat.zero_le _), HTT⟩
      case round =>
        obtain ⟨i, rfl, HI, HT⟩ := hrel
        by_cases hi : i < N
        case neg =>
          have hiz : ¬ (i : Int) < (N : Int) := by omega
          clear hi
          go_wp2
          exact bodyPost_ret (results_tmp rfl _ _ _) rfl ⟨rfl, HT.out.2.2⟩
        have hiz : (i : Int) < (N : Int) := by omega
        have HII := Lib.hid hi
        obtain ⟨g2, o2, e2, hv2, hfm⟩ := HT.out.1.form (by omega)
        injection hv2 with hva hvl hvc
        subst hva
        subst hvc
        clear hvl hfm
        have hs := HT.out.2.1.sl
        rw [HNL.out] at hs
        obtain ⟨g3, o3, e3, hv3, hfm⟩ := hs.form (by omega)
        injection hv3 with hva hvl hvc
        subst hva
        subst hvc
        clear hvl hfm
        obtain ⟨y0, y1⟩ := TSl.at_ HT.out.1 (show i < L.length by rw [HNL.out]; exact hi)
        obtain ⟨z0, z1⟩ := TSl.at_ hs (show i < L.length by rw [HNL.out]; exact hi)
        have x1 := HT.out.2.1.blk.cell 1
        have xl := HT.out.2.1.blk.lt
        simp at x1
        have e8 := wrap_sm HN.out hi
        generalize L.getD i (0, 0) = x at *
        clear hs hi
        go_wp2_with fail
        go_quiet (fail)
        go_wp2
        go_roundw
        case measure => (try rw [e8]); exact meas (by have := HII.out; omega)
        case rel => exact ⟨i + 1, by first | rfl | rw [e8], Lib.hid HII.out, Lib.hid ⟨HT.out.1, HT.out.2.1.only0 ((Only.refl [] _).drewN _), HT.out.2.2.drewN _⟩⟩
    have hiz : (i : Int) < (N : Int) := by omega
    have HII := Lib.hid hi
    obtain ⟨g1, o1, e1, hv1, hfm⟩ := HT.out.s1.form (by omega)
    injection hv1 with hva hvl hvc
    subst hva
    subst hvc
    clear hvl hfm
    have hs := HT.out.dk.sl
    rw [HNL.out] at hs
    obtain ⟨g3, o3, e3, hv3, hfm⟩ := hs.form (by omega)
    injection hv3 with hva hvl hvc
    subst hva
    subst hvc
    clear hvl hfm
    obtain ⟨y0, y1⟩ := TSl.at_ HT.out.s1 (show i < d.length by rw [HT.out.len]; exact hi)
    obtain ⟨z0, z1⟩ := TSl.at_ hs (show i < L.length by rw [HNL.out]; exact hi)
    rw [HT.out.eq i (Nat.le_refl _) hi] at y0 y1
    have x1 := HT.out.dk.blk.cell 1
    have xl := HT.out.dk.blk.lt
    simp at x1
    have e8 := wrap_sm HN.out hi
    obtain ⟨x, hx⟩ : ∃ x, L.getD i (0, 0) = x := ⟨_, rfl⟩
    rw [hx] at y0 y1 z0 z1
    have HQX : ∀ n, Hid (Calls Try.prog 41 #[fv x.2, fv x.2] (wr.drewN n) fun e w' => e = .returned (.bool true) ∧ w' = wr.drewN n) := fun n => Lib.hid (by have := bits41 (wr.drewN n) x.2 x.2; rwa [decide_eq_true rfl] at this)
    clear hs hi hx HT0
    go_wp2_with fail
    go_quiet ((go_at_call 41; exact Calls.quiet_of_same (HQX _).out))
    have HT5 := Lib.hid (HT.out.only0 ((Only.refl [] wr).drewN nq))
    clear HT HQX y0 y1 z0 z1 x1 xl
    generalize wr.drewN nq = w5 at *
    obtain ⟨cur, hB, hfit⟩ := TSl.fit HT5.out.s1
    have HB := Lib.hid hB
    have HFIT := Lib.hid (show o1 + N * 2 ≤ cur.size from hfit)
    clear hB hfit
    go_wp2_with (refine wpList_store_blk (g := g1) (k := o1 + i * 2) rfl 70 (.tmp 96) (.tmp 95) rfl [iv 0, fv 0] rfl rfl HB.out (by kernel_rfl) (by have := HFIT.out; have := HII.out; simp; omega) (by simp [Value.oneCell']) ?_)
    intro w6 hB6 hO6
    have HT6 := Lib.hid (HT5.out.put HII.out HB.out hB6 hO6 (HF1.out g1 rfl) (HNE.out g1 rfl) HQL.out.1 HQL.out.2)
    clear hB6 hO6 HB
    go_wp2
    go_roundw
    case measure => (try rw [e8]); exact meas (by have := HII.out; omega)
    case rel => exact ⟨i + 1, _, by first | rfl | rw [e8], Lib.hid HII.out, HT6⟩
end Go.Proofs.Ytjnhplgdbdneiaa
