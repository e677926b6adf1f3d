/-
  Clock: what every statement asks ahead.
-/
import Derived.Test.YtjnhplgdbdneiaaDn
set_option linter.unusedSimpArgs false
set_option linter.unusedVariables false
namespace Go.Proofs.Ytjnhplgdbdneiaa
open Go.RowKit Go.Fl

theorem t3 : addW 4607182418800017408 4611686018427387904 = 4613937818241073152 := by decide +kernel
theorem ti : addW 4607182418800017408 9218868437227405312 = 9218868437227405312 := by decide +kernel
set_option maxRecDepth 100000 in
theorem inf26 (w : World) : Calls Try.prog 26 #[iv 1] w fun e w' => e = .returned (fv 9218868437227405312) ∧ w' = w := by
  have e := e10
  go_enter Try.func26, Try.ntmps26
  go_wp2
  exact bodyPost_ret (results_tmp rfl _ _ _) rfl ⟨rfl, rfl⟩
abbrev bL : List Tm := [(1, 4613937818241073152), (2, 9218868437227405312)]
theorem bRel : Rel (hpush (hpush [] (1, 4613937818241073152)) (2, 9218868437227405312)) bL := by
  have h1 : Rel (hpush [] (1, 4613937818241073152)) ([] ++ (1, 4613937818241073152) :: []) := Rel.push (A := []) (B := []) Rel.nil (fun y hy => by cases hy) (fun y hy => by cases hy) (fun y hy => by cases hy)
  exact Rel.push (A := [(1, 4613937818241073152)]) (B := []) (x := (2, 9218868437227405312)) h1 (fun y hy => by rw [List.mem_singleton.1 hy]; decide) (fun y hy => by cases hy) (fun y hy => by rw [List.mem_singleton.1 hy]; decide)
theorem bSplit {A B : List Tm} (h : bL = A ++ B) (h1 : ∀ x ∈ A, x.2 ≤ 4613937818241073152) (h2 : ∀ x ∈ B.head?, 4613937818241073152 < x.2) : A = [(1, 4613937818241073152)] ∧ B = [(2, 9218868437227405312)] := by
  match A, h, h1 with
  | [], h, _ =>
    simp at h
    subst h
    have := h2 _ rfl
    exact absurd this (by decide)
  | [a], h, _ =>
    simp at h
    exact ⟨by rw [← h.1], h.2.symm⟩
  | a :: b :: A, h, h1 =>
    simp at h
    have := h1 b (by simp)
    rw [← h.2.1] at this
    exact absurd this (by decide)
set_option maxRecDepth 1000000 in
set_option maxHeartbeats 6400000 in
theorem begun7 (w : World) : Calls Try.prog 7 #[] w fun e w' => e = .returned (.bool true) ∧ Only [] w w' := by
  have hp1 : plB 4607182418800017408 = true ∧ plV 4607182418800017408 ≠ 9218868437227405312 := by decide +kernel
  have hv1 : plV 4607182418800017408 = 4607182418800017408 := by decide +kernel
  have HQ := Lib.hid (new8 w 4607182418800017408 (by decide))
  have HP1 := Lib.hid (And.intro hp1 hv1)
  clear hp1 hv1
  go_enter Try.func7, Try.ntmps7
  go_wp2_with fail
  refine HQ.out.mono ?_
  clear HQ
  rintro e w1 (⟨_, rfl, hc, ho⟩ | ⟨hn, _⟩)
  · rw [HP1.out.2] at hc
    have HC1 := Lib.hid hc
    have HO1 := Lib.hid ho
    have HLT := Lib.hid (show w.heap.size < w1.heap.size from hc.blk.lt)
    clear hc ho
    obtain ⟨r, hr⟩ : ∃ r, w.heap.size = r := ⟨_, rfl⟩
    rw [hr] at HC1 HLT ⊢
    have HRR := Lib.hid (Nat.le_of_eq hr)
    clear hr
    have HQ := Lib.hid (after9 w1 (d := 4611686018427387904) HC1.out (by decide) (by decide) (by omega))
    go_wp2_with fail
    refine HQ.out.mono ?_
    clear HQ
    intro e w2 hp
    unfold AfterPost at hp
    rw [if_pos (show plB 4611686018427387904 = true by decide +kernel), if_neg (by simp)] at hp
    obtain ⟨rfl, s2, hc, hg⟩ := hp
    rw [show plV 4611686018427387904 = 4611686018427387904 by decide +kernel, t3] at hc
    have HC2 := Lib.hid hc
    have HG2 := Lib.hid hg
    clear hc hg HC1
    have HI := Lib.hid (inf26 w2)
    go_wp2_with fail
    refine HI.out.mono ?_
    clear HI
    rintro e w3 ⟨rfl, rfl⟩
    have HQ := Lib.hid (after9 w3 (d := 9218868437227405312) HC2.out (by decide) (by decide) (by omega))
    go_wp2_with fail
    refine HQ.out.mono ?_
    clear HQ
    intro e w4 hp
    unfold AfterPost at hp
    rw [if_pos (show plB 9218868437227405312 = true by decide +kernel), if_neg (by rw [hpush_len]; simp)] at hp
    obtain ⟨rfl, s4, hc, hg⟩ := hp
    rw [show plV 9218868437227405312 = 9218868437227405312 by decide +kernel, ti] at hc
    have HC4 := Lib.hid (show CK w4 r 4607182418800017408 2 (hpush (hpush [] (1, 4613937818241073152)) (2, 9218868437227405312)) s4 from hc)
    have HG4 := Lib.hid (HG2.out.trans hg)
    clear hc hg HC2 HG2
    have hhd := bRel.head
    have hlen := bRel.len
    have hmem : ∀ x ∈ hpush (hpush [] (1, 4613937818241073152)) (2, 9218868437227405312), 4607182418800017408 ≤ x.2 := fun x hx => by
      have := bRel.perm.mem_iff.1 hx
      simp at this
      rcases this with rfl | rfl <;> decide
    have HREL := Lib.hid bRel
    generalize hpush (hpush [] (1, 4613937818241073152)) (2, 9218868437227405312) = l at *
    have hne : l ≠ [] := fun e => by rw [e] at hlen; simp at hlen
    have hnv : nextV l = 4613937818241073152 := by
      unfold nextV
      rw [if_neg (by rw [hhd]; simp [hne]), hhd]
    have hnb : nextB l = true := by
      unfold nextB
      exact decide_eq_true (by rw [hhd]; simp [hne])
    have HNV := Lib.hid (And.intro hnv hnb)
    have HQ := Lib.hid (jump22 w4 HC4.out HREL.out (by decide) hmem (by rw [hlen]; simp))
    clear hhd hlen hmem hne hnv hnb
    go_wp2_with fail
    refine HQ.out.mono ?_
    clear HQ
    intro e w5 hp
    unfold JumpPost at hp
    rw [if_pos HNV.out.2, HNV.out.1] at hp
    obtain ⟨A, B, m, s5, z, rfl, hgr, hh⟩ := hp
    obtain ⟨rfl, rfl⟩ := bSplit hgr.eq hgr.le hh
    have hm0 := hgr.rel.head
    have hml := hgr.rel.len
    obtain ⟨za, zc, rfl, _⟩ := hgr.sl.shape
    have HC5 := Lib.hid hgr.ck
    have HG5 := Lib.hid (HG4.out.trans hgr.gw)
    have hnv : nextV m = 0 := by unfold nextV; rw [if_pos (.inr (by rw [hm0]))]
    have hnb : nextB m = false := by unfold nextB; exact decide_eq_false (by rw [hm0]; simp)
    have HQ := Lib.hid (next25 w5 HC5.out)
    rw [hnv, hnb] at HQ
    have HNW := Lib.hid (now_ck HC5.out)
    have HTM := Lib.hid (timers15 HC5.out (sort_small (by rw [hml]; simp)) (by rw [hml]; simp))
    have HML := Lib.hid hml
    clear hnv hnb hm0 hml hh hgr HC4 HG4 HNV
    go_wp2_with fail
    refine HQ.out.mono ?_
    clear HQ
    rintro e w6 ⟨rfl, rfl⟩
    go_wp2_with fail
    refine HNW.out.mono ?_
    clear HNW
    rintro e w7 ⟨rfl, rfl⟩
    have h3 : (FloatKind.f64.format.order 4613937818241073152 4613937818241073152 == some .eq) = true := by
      have := ford_eq (rk_le (x := 4613937818241073152) (by decide)).2 (rk_le (x := 4613937818241073152) (by decide)).2
      rw [decide_eq_true rfl] at this
      exact this
    go_wp2_with fail
    refine HTM.out.mono ?_
    clear HTM
    rintro e w8 ⟨v, d, rfl, hs, _, _, _, ho⟩
    obtain ⟨va, vc, rfl, _⟩ := hs.shape
    have HO8 := Lib.hid (show Only [] w w8 from (HO1.out.trans' HG5.out.only fun i hi => .inr (by
      have := HRR.out
      simp [Value.ownBlock] at hi
      omega)).trans ho)
    clear hs ho
    have hl1 := HML.out
    simp at hl1
    rw [hl1]
    go_wp2
    exact bodyPost_ret (results_tmp rfl _ _ _) rfl ⟨rfl, HO8.out⟩
  · exact absurd HP1.out.1 hn
end Go.Proofs.Ytjnhplgdbdneiaa
