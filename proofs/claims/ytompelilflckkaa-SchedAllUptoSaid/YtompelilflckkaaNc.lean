/-
  The document's own run: may tasks be? May a run be asked for?
-/
import Derived.Test.YtompelilflckkaaNb
import Derived.Test.YtompelilflckkaaMq
import Derived.Test.YtompelilflckkaaMa
set_option linter.unusedSimpArgs false
set_option linter.unusedVariables false
namespace Go.Proofs.Ytompelilflckkaa
open Go.RowKit Go.Fl

theorem fields_ok {w : World} {y : A} {m : Nat} (hm : m ≤ 256) (hk : oddA y = false) : Calls Try.prog 21 #[.agg #[iv y.kind, iv y.a, iv y.b, iv y.n], iv m] w fun e w' => e = .returned (.bool (rightB y.kind y.a y.b y.n m)) ∧ Only [] w w' := by
  obtain ⟨K, a, b, n⟩ := y
  have h : 1 ≤ K ∧ K ≤ 13 := by unfold oddA at hk; simp at hk; omega
  dsimp only
  have hk : K = 1 ∨ K = 2 ∨ K = 3 ∨ K = 4 ∨ K = 5 ∨ K = 6 ∨ K = 7 ∨ K = 8 ∨ K = 9 ∨ K = 10 ∨ K = 11 ∨ K = 12 ∨ K = 13 := by omega
  rcases hk with rfl | rfl | rfl | rfl | rfl | rfl | rfl | rfl | rfl | rfl | rfl | rfl | rfl
  · exact fields1
  · exact fields2
  · exact fields3
  · exact fields4
  · exact fields5
  · exact fields6
  · exact fields7
  · exact fields8
  · exact fields9
  · exact fields10
  · exact fields11
  · exact fields12
  · exact fields13 (by omega) (by omega)
/-- One task, as it is read. -/
theorem TasksV.at_ {base : Nat} {w : World} {a : Option Addr} {c : Nat} {acts : List (List A)} (h : TasksV base w (.slice a acts.length c) acts) {i : Nat} (hi : i < acts.length) : ∃ g o va vc, a = some ⟨g, o, none⟩ ∧ g < w.heap.size ∧ w.cell? ⟨g, o + i, none⟩ = some (.slice va acts[i].length vc) ∧ ActsV base w (.slice va acts[i].length vc) acts[i] := by
  obtain ⟨a', c', hv, _, _, hh⟩ := h
  injection hv with e1 _ e3
  subst e1
  obtain ⟨g, o, rfl, _, hg, hc⟩ := hh (by omega)
  obtain ⟨v, hv, hA⟩ := hc i hi
  obtain ⟨va, vc, hva, _, _, _⟩ := id hA
  exact ⟨g, o, va, vc, rfl, hg, by rw [← hva]; exact hv, by rw [← hva]; exact hA⟩
theorem ActsV.at_ {base : Nat} {w : World} {a : Option Addr} {c : Nat} {l : List A} (h : ActsV base w (.slice a l.length c) l) {i : Nat} (hi : i < l.length) : ∃ g o, a = some ⟨g, o, none⟩ ∧ g < w.heap.size ∧ w.cell? ⟨g, o + i * 4, none⟩ = some (iv l[i].kind) ∧ w.cell? ⟨g, o + i * 4 + 1, none⟩ = some (iv l[i].a) ∧ w.cell? ⟨g, o + i * 4 + 2, none⟩ = some (iv l[i].b) ∧ w.cell? ⟨g, o + i * 4 + 3, none⟩ = some (iv l[i].n) := by
  obtain ⟨a', c', hv, _, _, hh⟩ := h
  injection hv with e1 _ e3
  subst e1
  obtain ⟨g, o, rfl, _, hg, hc⟩ := hh (by omega)
  exact ⟨g, o, rfl, hg, hc i hi⟩
set_option maxRecDepth 100000 in
set_option maxHeartbeats 6400000 in
theorem may2_ok {w : World} {tv : Value} {acts : List (List A)} (h : TasksV w.heap.size w tv acts) : Calls Try.prog 12 #[tv] w fun e w' => e = .returned (iv (mayM acts)) ∧ Only [] w w' := by
  have H := Lib.hid h
  obtain ⟨a, c, hv, hc, hcm, _⟩ := h
  subst hv
  have hmx : acts.length ≤ maxLen := by omega
  by_cases h16 : 16 < acts.length
  · have h16z : (16 : Int) < (acts.length : Int) := by omega
    have e : mayM acts = 9 := by unfold mayM; rw [if_pos (.inl h16)]
    rw [e]
    go_enter Try.func12, Try.ntmps12
    go_wp2
    exact bodyPost_ret (results_tmp rfl _ _ _) rfl ⟨rfl, Only.refl _ _⟩
  have h16z : ¬ (16 : Int) < (acts.length : Int) := by omega
  go_enter Try.func12, Try.ntmps12
  go_wp2
  go_loopw [3] (fun z wr => ∃ k : Nat, k ≤ acts.length ∧ z = .int .i64 k ∧ Hid (∀ j (h : j < acts.length), j < k → acts[j].length ≤ 256) ∧ wr = w) (fun z _ => acts.length - (intOf z).toNat)
  case atStart => exact ⟨0, Nat.zero_le _, rfl, Lib.hid (fun j _ h => absurd h (Nat.not_lt_zero _)), rfl⟩
  case round =>
    obtain ⟨k, hk, rfl, HB, rfl⟩ := hrel
    by_cases hkl : k < acts.length
    · have hkz : (k : Int) < (acts.length : Int) := by omega
      obtain ⟨g, o, va, vc, ha, hg, cv, _⟩ := H.out.at_ hkl
      subst ha
      by_cases hbig : 256 < acts[k].length
      · have hbz : (256 : Int) < (acts[k].length : Int) := by omega
        have e : mayM acts = 9 := by
          unfold mayM
          rw [if_pos (.inr (List.any_eq_true.2 ⟨_, List.getElem_mem hkl, by simpa using hbig⟩))]
        have HE := Lib.hid e
        clear e
        generalize acts[k].length = m at *
        go_wp2
        exact bodyPost_ret (results_tmp rfl _ _ _) rfl ⟨by rw [HE.out]; rfl, Only.refl _ _⟩
      · have hbz : ¬ (256 : Int) < (acts[k].length : Int) := by omega
        have HB2 := Lib.hid (show ∀ j (h : j < acts.length), j < k + 1 → acts[j].length ≤ 256 from fun j hj hlt => by
          by_cases e : j < k
          · exact HB.out j hj e
          · obtain rfl : j = k := by omega
            omega)
        generalize acts[k].length = m at *
        go_wp2
        go_roundw
        case measure => simp [intOf]; omega
        case rel => exact ⟨k + 1, by omega, by go_num, HB2, by first | rfl | trivial⟩
    · obtain rfl : k = acts.length := by omega
      have HA1 := Lib.hid (show acts.any (fun l => decide (256 < l.length)) = false by
        rw [Bool.eq_false_iff]
        intro ht
        obtain ⟨l, hl, h2⟩ := List.any_eq_true.1 ht
        obtain ⟨j, hj, rfl⟩ := List.getElem_of_mem hl
        have := HB.out j hj hj
        simp at h2
        omega)
      have HL := Lib.hid (show ∀ j (h : j < acts.length), acts[j].length ≤ 256 from fun j hj => HB.out j hj hj)
      clear HB
      go_wp2
      go_loopw [4] (fun z wr2 => ∃ k2 : Nat, k2 ≤ acts.length ∧ z = .int .i64 k2 ∧ Hid (∀ j (h : j < acts.length), j < k2 → acts[j].any oddA = false) ∧ wr2 = wr) (fun z _ => acts.length - (intOf z).toNat)
      case atStart => exact ⟨0, Nat.zero_le _, rfl, Lib.hid (fun j _ h => absurd h (Nat.not_lt_zero _)), rfl⟩
      case round =>
        obtain ⟨k2, hk2, rfl, HB, rfl⟩ := hrel
        by_cases hkl2 : k2 < acts.length
        · have hkz2 : (k2 : Int) < (acts.length : Int) := by omega
          obtain ⟨g, o, va, vc, ha, hg, cv, hA⟩ := H.out.at_ hkl2
          subst ha
          have hl256 := HL.out k2 hkl2
          obtain ⟨l, hl⟩ : ∃ l, acts[k2] = l := ⟨_, rfl⟩
          rw [hl] at cv hA hl256
          have HLK := Lib.hid hl
          have HA := Lib.hid hA
          clear hl hA
          go_wp2
          go_loopw [5] (fun z wr3 => ∃ k3 : Nat, k3 ≤ l.length ∧ z = .int .i64 k3 ∧ Hid (∀ j (h : j < l.length), j < k3 → oddA l[j] = false) ∧ wr3 = wr) (fun z _ => l.length - (intOf z).toNat)
          case atStart => exact ⟨0, Nat.zero_le _, rfl, Lib.hid (fun j _ h => absurd h (Nat.not_lt_zero _)), rfl⟩
          case round =>
            obtain ⟨k3, hk3, rfl, HC, rfl⟩ := hrel
            by_cases hkl3 : k3 < l.length
            · have hkz3 : (k3 : Int) < (l.length : Int) := by omega
              obtain ⟨ga, oa, hva, hga, q0, _, _, _⟩ := HA.out.at_ hkl3
              subst hva
              have HOD := Lib.hid (show oddA l[k3] = (decide (l[k3].kind < 1) || decide (13 < l[k3].kind)) from rfl)
              have HBad := Lib.hid (show oddA l[k3] = true → mayM acts = 62 from fun ho => by
                unfold mayM
                rw [if_neg (by rw [HA1.out]; simp; omega), if_pos (by
                  unfold oddsIn
                  exact List.any_eq_true.2 ⟨_, List.getElem_mem hkl2, List.any_eq_true.2 ⟨l[k3], by rw [HLK.out]; exact List.getElem_mem hkl3, ho⟩⟩)])
              have HNext := Lib.hid (show oddA l[k3] = false → ∀ j (h : j < l.length), j < k3 + 1 → oddA l[j] = false from fun ho j hj hlt => by
                by_cases e : j < k3
                · exact HC.out j hj e
                · obtain rfl : j = k3 := by omega
                  exact ho)
              generalize l[k3].kind = K at q0 HOD
              by_cases hK1 : K < 1
              · have HE := Lib.hid (HBad.out (by rw [HOD.out]; simp [hK1]))
                clear HBad HNext HOD
                go_wp2
                exact bodyPost_ret (results_tmp rfl _ _ _) rfl ⟨by rw [HE.out]; rfl, Only.refl _ _⟩
              · by_cases hK2 : 13 < K
                · have HE := Lib.hid (HBad.out (by rw [HOD.out]; simp [hK2]))
                  clear HBad HNext HOD
                  go_wp2
                  exact bodyPost_ret (results_tmp rfl _ _ _) rfl ⟨by rw [HE.out]; rfl, Only.refl _ _⟩
                · have HN := Lib.hid (HNext.out (by rw [HOD.out]; simp [hK1, hK2]))
                  clear HBad HNext HOD
                  go_wp2
                  go_roundw
                  case measure => simp [intOf]; omega
                  case rel => exact ⟨k3 + 1, by omega, by go_num, HN, by first | rfl | trivial⟩
            · obtain rfl : k3 = l.length := by omega
              have HB2 := Lib.hid (show ∀ j (h : j < acts.length), j < k2 + 1 → acts[j].any oddA = false from fun j hj hlt => by
                by_cases e : j < k2
                · exact HB.out j hj e
                · obtain rfl : j = k2 := by omega
                  rw [HLK.out, Bool.eq_false_iff]
                  intro ht
                  obtain ⟨y, hy, h2⟩ := List.any_eq_true.1 ht
                  obtain ⟨q, hq, rfl⟩ := List.getElem_of_mem hy
                  rw [HC.out q hq hq] at h2
                  cases h2)
              clear HB HC
              go_wp2
              go_roundw
              case measure => simp [intOf]; omega
              case rel => exact ⟨k2 + 1, by omega, by go_num, HB2, by first | rfl | trivial⟩
        · obtain rfl : k2 = acts.length := by omega
          have HA2 := Lib.hid (show oddsIn acts = false by
            unfold oddsIn
            rw [Bool.eq_false_iff]
            intro ht
            obtain ⟨l, hl, h2⟩ := List.any_eq_true.1 ht
            obtain ⟨j, hj, rfl⟩ := List.getElem_of_mem hl
            rw [HB.out j hj hj] at h2
            cases h2)
          have HO2 := Lib.hid (show ∀ j (h : j < acts.length), ∀ q (h2 : q < acts[j].length), oddA acts[j][q] = false from fun j hj q hq => by
            have h3 := HB.out j hj hj
            cases ho : oddA acts[j][q] with
            | false => rfl
            | true =>
              rw [List.any_eq_true.2 ⟨_, List.getElem_mem hq, ho⟩] at h3
              cases h3)
          clear HB
          have HW0 := Lib.hid (Only.refl [] wr)
          obtain ⟨w0, hw0⟩ : ∃ x : World, x = wr := ⟨_, rfl⟩
          subst hw0
          go_wp2
          go_loopw [6] (fun z wr2 => ∃ k2 : Nat, k2 ≤ acts.length ∧ z = .int .i64 k2 ∧ Hid (∀ j (h : j < acts.length), j < k2 → acts[j].any (wrongA acts[j].length) = false) ∧ Hid (Only [] w0 wr2)) (fun z _ => acts.length - (intOf z).toNat)
          case atStart => exact ⟨0, Nat.zero_le _, rfl, Lib.hid (fun j _ h => absurd h (Nat.not_lt_zero _)), HW0⟩
          case round =>
            obtain ⟨w1, hwo⟩ : ∃ x : World, x = wr := ⟨_, rfl⟩
            subst hwo
            obtain ⟨k2, hk2, rfl, HB, HO⟩ := hrel
            clear HW0
            by_cases hkl2 : k2 < acts.length
            · have hkz2 : (k2 : Int) < (acts.length : Int) := by omega
              have H1 := Lib.hid (TasksV.here (H.out.below (Below.of_only HO.out (Nat.le_refl _))))
              obtain ⟨g, o, va, vc, ha, hg, cv, hA⟩ := H1.out.at_ hkl2
              subst ha
              have hl256 := HL.out k2 hkl2
              obtain ⟨l, hl⟩ : ∃ l, acts[k2] = l := ⟨_, rfl⟩
              have HO3 := Lib.hid (HO2.out k2 hkl2)
              rw [hl] at cv hA hl256 HO3
              have HLK := Lib.hid hl
              have HA := Lib.hid hA
              have HCV := Lib.hid cv
              clear hl hA
              go_wp2
              go_loopw [7] (fun z wr3 => ∃ k3 : Nat, k3 ≤ l.length ∧ z = .int .i64 k3 ∧ Hid (∀ j (h : j < l.length), j < k3 → wrongA l.length l[j] = false) ∧ Hid (Only [] w1 wr3)) (fun z _ => l.length - (intOf z).toNat)
              case atStart => exact ⟨0, Nat.zero_le _, rfl, Lib.hid (fun j _ h => absurd h (Nat.not_lt_zero _)), Lib.hid (Only.refl _ _)⟩
              case round =>
                obtain ⟨w2, hwo⟩ : ∃ x : World, x = wr := ⟨_, rfl⟩
                subst hwo
                obtain ⟨k3, hk3, rfl, HC, HP⟩ := hrel
                clear cv
                have cv : w2.cell? ⟨g, o + k2, none⟩ = some (.slice va l.length vc) := (HP.out.cell (p := ⟨g, o + k2, none⟩) hg (by simp)).trans HCV.out
                by_cases hkl3 : k3 < l.length
                · have hkz3 : (k3 : Int) < (l.length : Int) := by omega
                  obtain ⟨ga, oa, hva, hga, q0, q1, q2, q3⟩ := HA.out.at_ hkl3
                  subst hva
                  have q0 := (HP.out.cell (p := ⟨ga, oa + k3 * 4, none⟩) hga (by simp)).trans q0
                  have q1 := (HP.out.cell (p := ⟨ga, oa + k3 * 4 + 1, none⟩) hga (by simp)).trans q1
                  have q2 := (HP.out.cell (p := ⟨ga, oa + k3 * 4 + 2, none⟩) hga (by simp)).trans q2
                  have q3 := (HP.out.cell (p := ⟨ga, oa + k3 * 4 + 3, none⟩) hga (by simp)).trans q3
                  have HF := Lib.hid (fields_ok (w := w2.drew) (y := l[k3]) (m := l.length) (by omega) (HO3.out k3 hkl3))
                  have HBad := Lib.hid (show rightB l[k3].kind l[k3].a l[k3].b l[k3].n l.length = false → mayM acts = 1 from fun ho => by
                    unfold mayM
                    rw [if_neg (by rw [HA1.out]; simp; omega), if_neg (by rw [HA2.out]; simp), if_pos (by
                      unfold wrongsIn
                      refine List.any_eq_true.2 ⟨_, List.getElem_mem hkl2, List.any_eq_true.2 ⟨l[k3], by rw [HLK.out]; exact List.getElem_mem hkl3, ?_⟩⟩
                      rw [HLK.out]
                      unfold wrongA
                      rw [ho]; rfl)])
                  have HNext := Lib.hid (show rightB l[k3].kind l[k3].a l[k3].b l[k3].n l.length = true → ∀ j (h : j < l.length), j < k3 + 1 → wrongA l.length l[j] = false from fun ho j hj hlt => by
                    by_cases e : j < k3
                    · exact HC.out j hj e
                    · obtain rfl : j = k3 := by omega
                      unfold wrongA
                      rw [ho]; rfl)
                  generalize rightB l[k3].kind l[k3].a l[k3].b l[k3].n l.length = rb at HF HBad HNext
                  generalize l[k3] = y at q0 q1 q2 q3 HF
                  go_wp2
                  refine Lex.wp_region_text (by kernel_rfl) (by kernel_rfl) ?_
                  go_wp2_with fail
                  refine HF.out.mono ?_
                  clear HF
                  rintro e w3 ⟨rfl, hO3⟩
                  have HQ := Lib.hid ((HP.out.trans (Only.refl [] w2).drew).trans hO3)
                  have HW3 := Lib.hid (HO.out.trans HQ.out)
                  clear hO3
                  cases rb
                  · have HE := Lib.hid (HBad.out rfl)
                    clear HBad HNext
                    go_wp2
                    refine Lex.sq_done (by rfl) ?_
                    go_wp2
                    exact bodyPost_ret (results_tmp rfl _ _ _) rfl ⟨by rw [HE.out]; rfl, HW3.out⟩
                  · have HN := Lib.hid (HNext.out rfl)
                    clear HBad HNext
                    go_wp2
                    refine Lex.sq_done (by rfl) ?_
                    go_wp2
                    go_roundw
                    case measure => simp [intOf]; omega
                    case rel => exact ⟨k3 + 1, by omega, by go_num, HN, HQ⟩
                · obtain rfl : k3 = l.length := by omega
                  have HB2 := Lib.hid (show ∀ j (h : j < acts.length), j < k2 + 1 → acts[j].any (wrongA acts[j].length) = false from fun j hj hlt => by
                    by_cases e : j < k2
                    · exact HB.out j hj e
                    · obtain rfl : j = k2 := by omega
                      rw [HLK.out, Bool.eq_false_iff]
                      intro ht
                      obtain ⟨y, hy, h2⟩ := List.any_eq_true.1 ht
                      obtain ⟨q, hq, rfl⟩ := List.getElem_of_mem hy
                      rw [HC.out q hq hq] at h2
                      cases h2)
                  have HW2 := Lib.hid (HO.out.trans HP.out)
                  clear HB HC
                  go_wp2
                  go_roundw
                  case measure => simp [intOf]; omega
                  case rel => exact ⟨k2 + 1, by omega, by go_num, HB2, HW2⟩
            · obtain rfl : k2 = acts.length := by omega
              have HE := Lib.hid (show mayM acts = 0 by
                unfold mayM
                rw [if_neg (by rw [HA1.out]; simp; omega), if_neg (by rw [HA2.out]; simp), if_neg]
                intro ht
                unfold wrongsIn at ht
                obtain ⟨l, hl, h2⟩ := List.any_eq_true.1 ht
                obtain ⟨j, hj, rfl⟩ := List.getElem_of_mem hl
                rw [HB.out j hj hj] at h2
                cases h2)
              clear HB
              go_wp2
              exact bodyPost_ret (results_tmp rfl _ _ _) rfl ⟨by rw [HE.out]; rfl, HO.out⟩
end Go.Proofs.Ytompelilflckkaa
/-
  The document's own run: may a run be asked for?
-/
namespace Go.Proofs.Ytompelilflckkaa
open Go.RowKit Go.Fl

set_option maxRecDepth 100000 in
set_option maxHeartbeats 6400000 in
theorem asked2_ok {w : World} {tv pv : Value} {acts : List (List A)} {ps : List Int} (room : Int) (h : TasksV w.heap.size w tv acts) (hp : Row intv w pv ps) :
    Calls Try.prog 22 #[tv, iv room, pv] w fun e w' => e = .returned (iv (askedM acts room ps 0)) ∧ Only [] w w' := by
  have HM := Lib.hid (may2_ok h)
  obtain ⟨pa, pc, hpv, hpc, hpm, hcc⟩ := hp
  subst hpv
  have HC := Lib.hid hcc
  clear hcc h
  have hd : ∀ m : Int, mayM acts = m → m ≠ 0 → askedM acts room ps 0 = m := fun m e h0 => by
    unfold askedM
    rw [e, if_pos h0]
  have HD := Lib.hid hd
  have hd2 : mayM acts = 0 → (room < 1 ∨ 16 < room ∨ 65536 < ps.length) → askedM acts room ps 0 = 1 := fun e h0 => by
    unfold askedM
    rw [e, if_neg (by omega), if_pos (by omega)]
  have hd3 : mayM acts = 0 → ¬ (room < 1 ∨ 16 < room ∨ 65536 < ps.length) → askedM acts room ps 0 = if ps.any (fun k => decide (k < 0)) = true then 1 else 0 := fun e h0 => by
    unfold askedM
    rw [e, if_neg (by omega), if_neg (by omega)]
  have HD2 := Lib.hid hd2
  have HD3 := Lib.hid hd3
  clear hd hd2 hd3
  by_cases hm : mayM acts = 0
  · rw [hm] at HM
    have HM0 := Lib.hid hm
    clear hm
    by_cases h1 : room < 1
    · have HE := Lib.hid (HD2.out HM0.out (.inl h1))
      go_enter Try.func22, Try.ntmps22
      go_wp2_with fail
      refine HM.out.mono ?_
      clear HM
      rintro e w1 ⟨rfl, hO⟩
      have HO := Lib.hid hO
      clear hO
      go_wp2
      exact bodyPost_ret (results_tmp rfl _ _ _) rfl ⟨by rw [HE.out]; rfl, HO.out⟩
    by_cases h2 : 16 < room
    · have HE := Lib.hid (HD2.out HM0.out (.inr (.inl h2)))
      go_enter Try.func22, Try.ntmps22
      go_wp2_with fail
      refine HM.out.mono ?_
      clear HM
      rintro e w1 ⟨rfl, hO⟩
      have HO := Lib.hid hO
      clear hO
      go_wp2
      exact bodyPost_ret (results_tmp rfl _ _ _) rfl ⟨by rw [HE.out]; rfl, HO.out⟩
    by_cases h3 : 65536 < ps.length
    · have h3z : (65536 : Int) < (ps.length : Int) := by omega
      have HE := Lib.hid (HD2.out HM0.out (.inr (.inr h3)))
      go_enter Try.func22, Try.ntmps22
      go_wp2_with fail
      refine HM.out.mono ?_
      clear HM
      rintro e w1 ⟨rfl, hO⟩
      have HO := Lib.hid hO
      clear hO
      go_wp2
      exact bodyPost_ret (results_tmp rfl _ _ _) rfl ⟨by rw [HE.out]; rfl, HO.out⟩
    have h3z : ¬ (65536 : Int) < (ps.length : Int) := by omega
    have HE := Lib.hid (HD3.out HM0.out (by omega))
    go_enter Try.func22, Try.ntmps22
    go_wp2_with fail
    refine HM.out.mono ?_
    clear HM
    rintro e w1 ⟨rfl, hO⟩
    have HO := Lib.hid hO
    clear hO
    go_wp2
    go_loopw [8] (fun z wr => ∃ k : Nat, k ≤ ps.length ∧ z = .int .i64 k ∧ Hid (∀ j (h : j < ps.length), j < k → 0 ≤ ps[j]) ∧ wr = w1) (fun z _ => ps.length - (intOf z).toNat)
    case atStart => exact ⟨0, Nat.zero_le _, rfl, Lib.hid (fun j _ h => absurd h (Nat.not_lt_zero _)), rfl⟩
    case round =>
      obtain ⟨k, hk, rfl, HP, rfl⟩ := hrel
      by_cases hkl : k < ps.length
      · have hkz : (k : Int) < (ps.length : Int) := by omega
        obtain ⟨gn, on, rfl, hgn, hcn⟩ := HC.out (by omega)
        have hx : wr.cell? ⟨gn, on + k, none⟩ = some (iv ps[k]) := (HO.out.cell (p := ⟨gn, on + k, none⟩) hgn (by simp)).trans (hcn k hkl)
        clear hcn HC
        by_cases hneg : ps[k] < 0
        · have HE2 := Lib.hid (show askedM acts room ps 0 = 1 by
            rw [HE.out, if_pos (List.any_eq_true.2 ⟨_, List.getElem_mem hkl, by simpa using hneg⟩)])
          clear HE
          go_wp2
          exact bodyPost_ret (results_tmp rfl _ _ _) rfl ⟨by rw [HE2.out]; rfl, HO.out⟩
        · go_wp2
          go_roundw
          case measure => simp [intOf]; omega
          case rel => exact ⟨k + 1, by omega, by go_num, Lib.hid (fun j hj hlt => by
              by_cases e : j < k
              · exact HP.out j hj e
              · obtain rfl : j = k := by omega
                omega), by first | rfl | trivial⟩
      · obtain rfl : k = ps.length := by omega
        have HE2 := Lib.hid (show askedM acts room ps 0 = 0 by
          rw [HE.out, if_neg]
          intro ht
          obtain ⟨x, hx, h2⟩ := List.any_eq_true.1 ht
          obtain ⟨j, hj, rfl⟩ := List.getElem_of_mem hx
          have := HP.out j hj hj
          simp at h2
          omega)
        clear HE HP HC
        go_wp2
        exact bodyPost_ret (results_tmp rfl _ _ _) rfl ⟨by rw [HE2.out]; rfl, HO.out⟩
  · have HE := Lib.hid (HD.out _ rfl hm)
    have hmz : (mayM acts == 0) = false := by simpa using hm
    generalize mayM acts = m at *
    go_enter Try.func22, Try.ntmps22
    go_wp2_with fail
    refine HM.out.mono ?_
    clear HM
    rintro e w1 ⟨rfl, hO⟩
    have HO := Lib.hid hO
    clear hO
    go_wp2
    exact bodyPost_ret (results_tmp rfl _ _ _) rfl ⟨by rw [HE.out]; rfl, HO.out⟩
end Go.Proofs.Ytompelilflckkaa
/-
  The document's own run: where it may not be asked for.
-/
namespace Go.Proofs.Ytompelilflckkaa
open Go.RowKit Go.Fl

theorem asked_more (acts : List (List A)) (room most : Int) (ps : List Int) : askedM acts room ps most = if askedM acts room ps 0 ≠ 0 then askedM acts room ps 0 else if most < 0 ∨ 65536 < most then 1 else 0 := by
  unfold askedM
  by_cases h1 : mayM acts ≠ 0
  · rw [if_pos h1, if_pos h1, if_pos h1]
  · rw [if_neg h1, if_neg h1]
    by_cases h2 : room < 1 ∨ 16 < room ∨ (0 : Int) < 0 ∨ (65536 : Int) < 0 ∨ 65536 < ps.length
    · rw [if_pos h2, if_pos (show room < 1 ∨ 16 < room ∨ most < 0 ∨ 65536 < most ∨ 65536 < ps.length by omega), if_pos (show (1 : Int) ≠ 0 by omega)]
    · rw [if_neg h2]
      by_cases h3 : ps.any (fun k => decide (k < 0)) = true
      · rw [if_pos h3, if_pos (show (1 : Int) ≠ 0 by omega)]
        split <;> rfl
      · rw [if_neg h3, if_neg (show ¬ (0 : Int) ≠ 0 by omega)]
        by_cases h4 : most < 0 ∨ 65536 < most
        · rw [if_pos h4, if_pos (show room < 1 ∨ 16 < room ∨ most < 0 ∨ 65536 < most ∨ 65536 < ps.length by omega)]
        · rw [if_neg h4, if_neg (show ¬ (room < 1 ∨ 16 < room ∨ most < 0 ∨ 65536 < most ∨ 65536 < ps.length) by omega)]
set_option maxRecDepth 100000 in
set_option maxHeartbeats 3200000 in
theorem rready_bad {w : World} {tv pv : Value} {acts : List (List A)} {ps : List Int} (room : Int) (h : TasksV w.heap.size w tv acts) (hp : Row intv w pv ps) (hk : askedM acts room ps 0 ≠ 0) :
    Calls Try.prog 18 #[tv, iv room, pv] w fun e w' => e = .returned (.tuple #[.slice none 0 0, iv (askedM acts room ps 0)]) ∧ Only [] w w' := by
  have HA := Lib.hid (asked2_ok room h hp)
  have hz : (askedM acts room ps 0 == 0) = false := by simpa using hk
  generalize askedM acts room ps 0 = m at *
  go_enter Try.func18, Try.ntmps18
  go_wp2_with fail
  refine HA.out.mono ?_
  clear HA
  rintro e w1 ⟨rfl, hO1⟩
  have HO := Lib.hid hO1
  clear hO1
  go_wp2
  exact bodyPost_ret (v := .tuple #[.slice none 0 0, iv m]) (results2 rfl (res_tmp rfl) (res_tmp rfl)) rfl ⟨rfl, HO.out⟩
set_option maxRecDepth 100000 in
set_option maxHeartbeats 3200000 in
theorem rrun_bad {w : World} {tv pv : Value} {acts : List (List A)} {ps : List Int} (room most : Int) (h : TasksV w.heap.size w tv acts) (hp : Row intv w pv ps) (hk : askedM acts room ps most ≠ 0) :
    Calls Try.prog 13 #[tv, iv room, pv, iv most] w fun e w' => e = .returned (.tuple #[.agg #[iv 0, .slice none 0 0, .slice none 0 0, .slice none 0 0, .slice none 0 0], iv (askedM acts room ps most)]) ∧ Only [] w w' := by
  have hO := (Only.refl [] w).alloc (.cells #[iv 0, .slice none 0 0, .slice none 0 0, .slice none 0 0, .slice none 0 0] 33)
  have HA := Lib.hid (asked2_ok room (TasksV.here (h.below (Below.of_only hO (Nat.le_refl _)))) (hp.only hO))
  have hbk : Blk (w.alloc (.cells #[iv 0, .slice none 0 0, .slice none 0 0, .slice none 0 0, .slice none 0 0] 33)) w.heap.size 33 #[iv 0, .slice none 0 0, .slice none 0 0, .slice none 0 0, .slice none 0 0] := Blk.new _ _ _
  have hmore := asked_more acts room most ps
  by_cases h0 : askedM acts room ps 0 = 0
  · rw [if_neg (by omega)] at hmore
    have hbad : most < 0 ∨ 65536 < most := by
      by_cases e : most < 0 ∨ 65536 < most
      · exact e
      · rw [if_neg e] at hmore; exact absurd hmore hk
    rw [if_pos hbad] at hmore
    rw [hmore]
    rw [h0] at HA
    clear hmore hk h0
    by_cases hm0 : most < 0
    · go_enter Try.func13, Try.ntmps13
      go_wp2_with fail
      refine HA.out.mono ?_
      clear HA
      rintro e w1 ⟨rfl, hO1⟩
      have HB := Lib.hid (hbk.only hO1 (by simp))
      have HO := Lib.hid (hO.trans hO1)
      obtain ⟨hcb, hfb, hlb⟩ := HB.out.facts
      clear hbk hO hO1
      go_wp2
      refine bodyPost_ret (v := .tuple #[.agg #[iv 0, .slice none 0 0, .slice none 0 0, .slice none 0 0, .slice none 0 0], iv 1]) (results2 rfl (res_blk Try.underlying33 (by kernel_rfl) rfl (cs := [iv 0, .slice none 0 0, .slice none 0 0, .slice none 0 0, .slice none 0 0]) ?_) (res_tmp rfl)) rfl ⟨rfl, ?_⟩
      · (repeat' (first | with_reducible exact HB.out | with_reducible apply Blk.drew | with_reducible apply Blk.drewN | with_reducible apply Blk.alloc | ((with_reducible apply Blk.far); rotate_left; (focus (simp <;> omega))) | with_reducible apply Blk.set' | with_reducible exact SetEq.rfl' | (simp [SetEq]; done) | (simp [SetEq]; omega)))
      · (repeat (first | with_reducible exact Only.refl _ _ | with_reducible exact HO.out | with_reducible refine Only.drew ?_ | with_reducible refine Only.drewN ?_ _ | with_reducible refine Only.alloc ?_ _ | ((with_reducible refine Only.setCell ?_ ?_ _); rotate_left; (focus (first | (left; simp; done) | (right; simp; done) | (right; simp; omega) | (right; omega))))))
    · have hm1 : 65536 < most := by omega
      go_enter Try.func13, Try.ntmps13
      go_wp2_with fail
      refine HA.out.mono ?_
      clear HA
      rintro e w1 ⟨rfl, hO1⟩
      have HB := Lib.hid (hbk.only hO1 (by simp))
      have HO := Lib.hid (hO.trans hO1)
      obtain ⟨hcb, hfb, hlb⟩ := HB.out.facts
      clear hbk hO hO1
      go_wp2
      refine bodyPost_ret (v := .tuple #[.agg #[iv 0, .slice none 0 0, .slice none 0 0, .slice none 0 0, .slice none 0 0], iv 1]) (results2 rfl (res_blk Try.underlying33 (by kernel_rfl) rfl (cs := [iv 0, .slice none 0 0, .slice none 0 0, .slice none 0 0, .slice none 0 0]) ?_) (res_tmp rfl)) rfl ⟨rfl, ?_⟩
      · (repeat' (first | with_reducible exact HB.out | with_reducible apply Blk.drew | with_reducible apply Blk.drewN | with_reducible apply Blk.alloc | ((with_reducible apply Blk.far); rotate_left; (focus (simp <;> omega))) | with_reducible apply Blk.set' | with_reducible exact SetEq.rfl' | (simp [SetEq]; done) | (simp [SetEq]; omega)))
      · (repeat (first | with_reducible exact Only.refl _ _ | with_reducible exact HO.out | with_reducible refine Only.drew ?_ | with_reducible refine Only.drewN ?_ _ | with_reducible refine Only.alloc ?_ _ | ((with_reducible refine Only.setCell ?_ ?_ _); rotate_left; (focus (first | (left; simp; done) | (right; simp; done) | (right; simp; omega) | (right; omega))))))
  · rw [if_pos h0] at hmore
    rw [hmore]
    have hz : (askedM acts room ps 0 == 0) = false := by simpa using h0
    clear hmore hk
    generalize askedM acts room ps 0 = m at *
    go_enter Try.func13, Try.ntmps13
    go_wp2_with fail
    refine HA.out.mono ?_
    clear HA
    rintro e w1 ⟨rfl, hO1⟩
    have HB := Lib.hid (hbk.only hO1 (by simp))
    have HO := Lib.hid (hO.trans hO1)
    obtain ⟨hcb, hfb, hlb⟩ := HB.out.facts
    clear hbk hO hO1
    go_wp2
    refine bodyPost_ret (v := .tuple #[.agg #[iv 0, .slice none 0 0, .slice none 0 0, .slice none 0 0, .slice none 0 0], iv m]) (results2 rfl (res_blk Try.underlying33 (by kernel_rfl) rfl (cs := [iv 0, .slice none 0 0, .slice none 0 0, .slice none 0 0, .slice none 0 0]) ?_) (res_tmp rfl)) rfl ⟨rfl, ?_⟩
    · (repeat' (first | with_reducible exact HB.out | with_reducible apply Blk.drew | with_reducible apply Blk.drewN | with_reducible apply Blk.alloc | ((with_reducible apply Blk.far); rotate_left; (focus (simp <;> omega))) | with_reducible apply Blk.set' | with_reducible exact SetEq.rfl' | (simp [SetEq]; done) | (simp [SetEq]; omega)))
    · (repeat (first | with_reducible exact Only.refl _ _ | with_reducible exact HO.out | with_reducible refine Only.drew ?_ | with_reducible refine Only.drewN ?_ _ | with_reducible refine Only.alloc ?_ _ | ((with_reducible refine Only.setCell ?_ ?_ _); rotate_left; (focus (first | (left; simp; done) | (right; simp; done) | (right; simp; omega) | (right; omega))))))
end Go.Proofs.Ytompelilflckkaa
