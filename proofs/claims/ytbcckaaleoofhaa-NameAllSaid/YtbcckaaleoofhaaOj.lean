/-
  The document's own Order.
-/
import Derived.Test.YtbcckaaleoofhaaOi
import Derived.Test.YtbcckaaleoofhaaNj
namespace Go.Proofs.Ytbcckaaleoofhaa
open Go.RowKit Go.Fl

/-- Behind some rounds: what is put in order so far. -/
structure OrdR (w : World) (ss : List (List UInt8)) (v : Value) (wr : World) (k : Nat) : Prop where
  S : Sl wr 9 1 v (ordM mayB (ss.take k)).length (enc (ordM mayB (ss.take k)))
  fresh : ∀ g, v.ownBlock = some g → w.heap.size ≤ g
  O : Only [] w wr
theorem ordM_take {ss : List (List UInt8)} {k : Nat} (h : k < ss.length) : ordM mayB (ss.take (k + 1)) = if mayB ss[k] then putIn ss[k] (ordM mayB (ss.take k)) else ordM mayB (ss.take k) := by
  unfold ordM
  rw [List.take_succ_eq_append_getElem h, List.foldl_append]
  rfl
theorem ordM_len (ss : List (List UInt8)) : ∀ k, (ordM mayB (ss.take k)).length ≤ k
  | 0 => by simp [ordM]
  | k + 1 => by
    by_cases h : k < ss.length
    · rw [ordM_take h]
      have ih := ordM_len ss k
      split
      · have := putIn_len ss[k] (ordM mayB (ss.take k)); omega
      · omega
    · rw [List.take_of_length_le (by omega), ← List.take_of_length_le (l := ss) (i := k) (by omega)]
      have := ordM_len ss k; omega

theorem shift_at (L : List (List UInt8)) (j : List UInt8) (q : Nat) (h : q < L.length) : (enc (L.take (q + 1) ++ j :: L.drop (q + 1)))[q]? = some (.string ⟨L[q].toArray⟩) ∧ (enc (L.take (q + 1) ++ j :: L.drop (q + 1)))[q + 1]? = some (.string ⟨j.toArray⟩) := by
  have e1 : (L.take (q + 1)).length = q + 1 := by rw [List.length_take]; omega
  constructor
  · rw [enc, List.getElem?_map, List.getElem?_append_left (by omega), List.getElem?_take, if_pos (by omega), List.getElem?_eq_getElem h]; rfl
  · rw [enc, List.getElem?_map, List.getElem?_append_right (by omega), e1, Nat.sub_self]; rfl
theorem shift_here (L : List (List UInt8)) (j : List UInt8) (q : Nat) (h : q ≤ L.length) : (enc (L.take q ++ j :: L.drop q))[q]? = some (.string ⟨j.toArray⟩) := by
  have e1 : (L.take q).length = q := by rw [List.length_take]; omega
  rw [enc, List.getElem?_map, List.getElem?_append_right (by omega), e1, Nat.sub_self]; rfl
theorem Strs.cell_ {w : World} {g off cap k : Nat} {l : List (List UInt8)} (h : Strs w (.slice (some ⟨g, off, none⟩) l.length cap) l) (hk : k < l.length) : w.cell? ⟨g, off + k, none⟩ = some (.string ⟨l[k].toArray⟩) := by
  obtain ⟨a, c, hv, _, _, hh⟩ := h
  obtain ⟨g', off', ha, _, hc⟩ := hh (by omega)
  injection hv with e1 _ _
  rw [ha] at e1
  simp only [Option.some.injEq, Addr.mk.injEq, and_true] at e1
  obtain ⟨rfl, rfl⟩ := e1
  exact hc k hk

set_option maxRecDepth 100000 in
set_option maxHeartbeats 3200000 in
theorem rorder_ok {v : Value} {ss : List (List UInt8)} (w : World) (h : Strs w v ss) (hl : ss.length ≤ 4096) :
    Calls Try.prog 15 #[v] w fun e w' => ∃ u, e = .returned u ∧ Sl w' 9 1 u (ordM mayB ss).length (enc (ordM mayB ss)) ∧ (∀ g, u.ownBlock = some g → w.heap.size ≤ g) ∧ Only [] w w' := by
  obtain ⟨j9, si, sz0, sz1, sz2⟩ := info_parts info9
  have H := Lib.hid h
  obtain ⟨a, c, hv, hc, hcm, _⟩ := h
  subst hv
  go_enter Try.func15, Try.ntmps15
  go_wp2
  go_loopw [3, 4] (fun u i wr => ∃ k : Nat, k ≤ ss.length ∧ i = .int .i64 k ∧ Hid (OrdR w ss u wr k)) (fun _ i _ => ss.length - (intOf i).toNat)
  case atStart => exact ⟨0, Nat.zero_le _, rfl, Lib.hid ⟨Sl.nil _ _ _, fun g hg => by simp [Value.ownBlock] at hg, Only.refl _ _⟩⟩
  case round =>
    obtain ⟨k, hk, rfl, HR⟩ := hrel
    by_cases hkl : k < ss.length
    · have hkz : (k : Int) < (ss.length : Int) := by omega
      obtain ⟨a', c', hv', _, _, hcell⟩ := H.out.only HR.out.O
      obtain ⟨g, off, ha, hg, hcc⟩ := hcell (by omega)
      injection hv' with e1 e2 e3
      subst e1
      subst e3
      subst ha
      clear e2
      obtain ⟨x, hx⟩ : ∃ x, ss[k] = x := ⟨_, rfl⟩
      have cx : wr.cell? ⟨g, off + k, none⟩ = some (.string ⟨x.toArray⟩) := hx ▸ hcc k hkl
      have HM := Lib.hid (rmay_ok x wr)
      have HT := Lib.hid (ordM_take hkl)
      rw [hx] at HT
      have HLn := Lib.hid (ordM_len ss k)
      have HXE := Lib.hid hx
      clear hcc hcell hx
      cases hm : mayB x with
      | false =>
        rw [hm] at HM
        have HE := Lib.hid (show ordM mayB (ss.take (k + 1)) = ordM mayB (ss.take k) by rw [HT.out, hm]; simp)
        clear hm
        go_wp2_with fail
        refine HM.out.mono ?_
        clear HM
        rintro e w1 ⟨rfl, rfl⟩
        go_wp2
        go_roundw
        case measure => simp [intOf]; omega
        case rel => exact ⟨k + 1, by omega, by go_num, Lib.hid ⟨by rw [HE.out]; exact HR.out.S, HR.out.fresh, HR.out.O⟩⟩
      | true =>
        rw [hm] at HM
        have HE := Lib.hid (show ordM mayB (ss.take (k + 1)) = putIn x (ordM mayB (ss.take k)) by rw [HT.out, hm]; simp)
        clear hm HT
        obtain ⟨L, hL⟩ : ∃ L, ordM mayB (ss.take k) = L := ⟨_, rfl⟩
        have hS := HR.out.S
        have hF := HR.out.fresh
        have hO := HR.out.O
        rw [hL] at hS HE HLn
        obtain ⟨al, cl, hvl, _, _⟩ := hS.shape
        have HS := Lib.hid hS
        have HF := Lib.hid hF
        have HO := Lib.hid hO
        clear hS hF hO HR hL
        subst hvl
        go_wp2_with fail
        refine HM.out.mono ?_
        clear HM
        rintro e w1 ⟨rfl, rfl⟩
        go_wp2
        go_loopw [5] (fun z wr => ∃ m : Nat, m ≤ L.length ∧ z = .int .i64 m ∧ Hid (∀ i (h : i < L.length), i < m → Op.bytesLess L[i] x = true) ∧ Hid (Only [] w1 wr)) (fun z _ => L.length - (intOf z).toNat)
        case atStart => exact ⟨0, Nat.zero_le _, rfl, Lib.hid (fun i _ h => by omega), Lib.hid (Only.refl _ _)⟩
        case round =>
          obtain ⟨m, hml, rfl, HL, HO1⟩ := hrel
          have cx1 : wr.cell? ⟨g, off + k, none⟩ = some (.string ⟨x.toArray⟩) := (HO1.out.cell (p := ⟨g, off + k, none⟩) hg (by simp)).trans cx
          have HS1 := Lib.hid (HS.out.only HO1.out (by simp))
          have HO2 := Lib.hid (HO.out.trans HO1.out)
          have hg1 : g < wr.heap.size := Nat.lt_of_lt_of_le hg HO1.out.size
          have HC := Lib.hid cx
          have HG := Lib.hid hg
          have hLn := HLn.out
          clear cx hg
          by_cases hmL : m < L.length
          · have hmz : (m : Int) < (L.length : Int) := by omega
            have hmd : decide ((m : Int) < (L.length : Int)) = true := decide_eq_true hmz
            obtain ⟨gl, ol, cl', hvl, hgl, _, _, hcc, _⟩ := HS1.out.form (by omega)
            injection hvl with e1 e2 e3
            subst e1
            subst e3
            clear e2
            obtain ⟨y, hy⟩ : ∃ y, L[m] = y := ⟨_, rfl⟩
            have cy : wr.cell? ⟨gl, ol + m, none⟩ = some (.string ⟨y.toArray⟩) := hy ▸ (hcc m (by omega)).trans (enc_at hmL)
            have HY := Lib.hid hy
            clear hcc hy
            cases hb : Op.bytesLess y x with
            | true =>
              have HB := Lib.hid hb
              go_wp2
              go_quiet (fail)
              go_wp2
              go_roundw
              case measure => simp [intOf]; omega
              case rel => exact ⟨m + 1, by omega, by go_num, Lib.hid (fun i hi him => by
                rcases Nat.lt_succ_iff_lt_or_eq.1 him with h1 | h1
                · exact HL.out i hi h1
                · subst h1; rw [HY.out]; exact HB.out), Lib.hid (HO1.out.drewN _)⟩
            | false =>
              have HB := Lib.hid hb
              have HP := Lib.hid (show putIn x L = if L[m]? = some x then L else L.take m ++ x :: L.drop m from putIn_at L x m (by omega) HL.out (fun _ => by rw [HY.out]; exact HB.out))
              go_wp2
              go_quiet (fail)
              by_cases hyx : y = x
              · have hq : (y == x) = true := by simpa using hyx
                have HE2 := Lib.hid (show putIn x L = L by rw [HP.out, List.getElem?_eq_getElem hmL, HY.out, if_pos (by rw [hyx])])
                clear hyx
                go_wp2
                go_quiet (fail)
                go_wp2
                go_roundw
                case measure => simp [intOf]; omega
                case rel => exact ⟨k + 1, by omega, by go_num, Lib.hid ⟨by rw [HE.out, HE2.out]; exact HS1.out.drewN _, HF.out, HO2.out.drewN _⟩⟩
              · have hq : (y == x) = false := by simpa using hyx
                have HE2 := Lib.hid (show putIn x L = L.take m ++ x :: L.drop m by rw [HP.out, List.getElem?_eq_getElem hmL, HY.out, if_neg (by simpa using hyx)])
                clear hyx
                go_wp2
                go_quiet (fail)
                go_wp2_with (at_builtin; refine wpList_append_one (news := [.string ⟨#[]⟩]) rfl (.tmp 51) (.tmp 52) 22 rfl 9 j9 _ 1 16 Try.underlying22 si sz0 sz1 sz2 rfl (by decide) rfl ((HS1.out.drewN _).alloc _) rfl (show Blk ((wr.drewN _).alloc (.cells #[.string ⟨#[]⟩] 9)) wr.heap.size 9 #[.string ⟨#[]⟩] from Blk.new _ _ _) rfl (by simp [Value.oneCell']) (by unfold maxLen; omega) (by omega) ?_)
                intro v2 w2 hS2 hg2 hat2
                obtain ⟨g2, o2, c2, hv2, hgg2, _, _, _, _⟩ := hS2.form (by omega)
                have hF2 : ∀ i, v2.ownBlock = some i → w.heap.size ≤ i := by
                  refine own_step (m := wr.heap.size + 1) HF.out (hat2.imp (fun e => e) (fun e => by first | exact e | (rw [e]; simp))) HO2.out.size (by omega)
                have HO3 := Lib.hid (((HO2.out.drewN _).alloc (.cells #[.string ⟨#[]⟩] 9)).grown hg2 (fun i hi => .inr (HF.out i hi)))
                rw [hv2] at hS2 hF2
                have HS3 := Lib.hid (show Sl w2 9 1 (.slice (some ⟨g2, o2, none⟩) (L.length + 1 : Nat) c2) (L.length + 1) (enc (L.take L.length ++ [] :: L.drop L.length)) by
                  have := hS2
                  rw [List.take_length, List.drop_length, enc_append]
                  exact this)
                have HN2 := Lib.hid (show w.heap.size ≤ g2 from hF2 g2 rfl)
                have HF2 := Lib.hid hF2
                have hml2 : m ≤ L.length := by omega
                clear hS2 hg2 hat2 hF2 cx1 hg1
                subst hv2
                go_wp2
                go_loopw [6] (fun z wx => ∃ q j, m ≤ q ∧ q ≤ L.length ∧ z = .int .i64 (q : Nat) ∧ Hid (Sl wx 9 1 (.slice (some ⟨g2, o2, none⟩) (L.length + 1 : Nat) c2) (L.length + 1) (enc (L.take q ++ j :: L.drop q))) ∧ Hid (Only [] w wx)) (fun z _ => (intOf z).toNat)
                case atStart => exact ⟨L.length, [], by omega, Nat.le_refl _, (by first | rfl | (congr 1; omega)), HS3, HO3⟩
                case round =>
                  obtain ⟨q, j, hmq, hqL, rfl, HSq, HOq⟩ := hrel
                  clear HS3 HO3
                  obtain ⟨_, _, _, hv, hgw, _, _, hcc, hfq⟩ := HSq.out.form (by omega)
                  injection hv with e1 e2 e3
                  simp only [Option.some.injEq, Addr.mk.injEq, and_true] at e1
                  obtain ⟨rfl, rfl⟩ := e1
                  subst e3
                  clear e2
                  by_cases hqm : m < q
                  · obtain ⟨p, rfl⟩ : ∃ p, q = p + 1 := ⟨q - 1, by omega⟩
                    have hp := shift_at L j p (by omega)
                    have hst := shift_step L j (p + 1) (by omega) hqL
                    simp only [Nat.add_sub_cancel] at hst
                    obtain ⟨t, ht⟩ : ∃ t, L[p] = t := ⟨_, rfl⟩
                    rw [ht] at hp hst
                    have d0 : wr.cell? ⟨g2, o2 + p, none⟩ = some (.string ⟨t.toArray⟩) := (hcc p (by omega)).trans hp.1
                    have d1 : wr.cell? ⟨g2, o2 + (p + 1), none⟩ = some (.string ⟨j.toArray⟩) := (hcc (p + 1) (by omega)).trans hp.2
                    have HST := Lib.hid hst
                    clear hcc hp hst ht
                    have hqz : (((m : Nat) : Int)) < (p : Int) + 1 := by omega
                    go_wp2
                    go_roundw
                    case measure => simp [intOf] <;> omega
                    case rel => exact ⟨p, t, by omega, by omega, by (first | rfl | (congr 1; done) | (congr 1; omega)), Lib.hid (by have := Sl_set1 (i := p + 1) HSq.out (.string ⟨t.toArray⟩); rw [HST.out] at this; exact this), Lib.hid (HOq.out.setCell (.inr HN2.out) _)⟩
                  · have hqe : q = m := by omega
                    subst hqe
                    have hp := shift_here L j _ hqL
                    have cxq : wr.cell? ⟨g, off + k, none⟩ = some (.string ⟨x.toArray⟩) := HXE.out ▸ (H.out.only HOq.out).cell_ hkl
                    have d0 : wr.cell? ⟨g2, o2 + _, none⟩ = some (.string ⟨j.toArray⟩) := (hcc _ (by omega)).trans hp
                    have HST := Lib.hid (shift_end L j x _ hqL)
                    clear hcc hp
                    have hSF : Sl (wr.setCell ⟨g2, o2 + q, none⟩ (.string ⟨x.toArray⟩)) 9 1 (.slice (some ⟨g2, o2, none⟩) (L.length + 1 : Nat) c2) (ordM mayB (ss.take (k + 1))).length (enc (ordM mayB (ss.take (k + 1)))) := by
                      rw [HE.out, HE2.out]
                      have h6 := Sl_set1 (i := q) HSq.out (.string ⟨x.toArray⟩)
                      rw [HST.out] at h6
                      have e6 : (L.take q ++ x :: L.drop q).length = L.length + 1 := by rw [List.length_append, List.length_cons, List.length_take, List.length_drop]; omega
                      rw [e6]
                      exact h6
                    have HSF := Lib.hid hSF
                    clear hSF
                    go_wp2
                    go_roundw
                    case measure => simp [intOf]; omega
                    case rel => exact ⟨k + 1, by omega, by go_num, Lib.hid ⟨HSF.out, HF2.out, HOq.out.setCell (.inr HN2.out) _⟩⟩
          · obtain rfl : m = L.length := by omega
            have hmd : decide (((L.length : Nat) : Int) < (L.length : Int)) = false := by simp
            have HE2 := Lib.hid (show putIn x L = L.take L.length ++ x :: L.drop L.length by
              have := putIn_at L x L.length (Nat.le_refl _) HL.out (fun hh => by omega)
              rw [this, List.getElem?_eq_none (Nat.le_refl _), if_neg (by simp)])
            go_wp2
            go_quiet (fail)
            go_wp2
            go_quiet (fail)
            go_wp2_with (at_builtin; refine wpList_append_one (news := [.string ⟨#[]⟩]) rfl (.tmp 51) (.tmp 52) 22 rfl 9 j9 _ 1 16 Try.underlying22 si sz0 sz1 sz2 rfl (by decide) rfl ((HS1.out.drewN _).alloc _) rfl (show Blk ((wr.drewN _).alloc (.cells #[.string ⟨#[]⟩] 9)) wr.heap.size 9 #[.string ⟨#[]⟩] from Blk.new _ _ _) rfl (by simp [Value.oneCell']) (by unfold maxLen; omega) (by omega) ?_)
            intro v2 w2 hS2 hg2 hat2
            obtain ⟨g2, o2, c2, hv2, hgg2, _, _, _, _⟩ := hS2.form (by omega)
            have hF2 : ∀ i, v2.ownBlock = some i → w.heap.size ≤ i := by
              refine own_step (m := wr.heap.size + 1) HF.out (hat2.imp (fun e => e) (fun e => by first | exact e | (rw [e]; simp))) HO2.out.size (by omega)
            have HO3 := Lib.hid (((HO2.out.drewN _).alloc (.cells #[.string ⟨#[]⟩] 9)).grown hg2 (fun i hi => .inr (HF.out i hi)))
            rw [hv2] at hS2 hF2
            have HS3 := Lib.hid (show Sl w2 9 1 (.slice (some ⟨g2, o2, none⟩) (L.length + 1 : Nat) c2) (L.length + 1) (enc (L.take L.length ++ [] :: L.drop L.length)) by
              have := hS2
              rw [List.take_length, List.drop_length, enc_append]
              exact this)
            have HN2 := Lib.hid (show w.heap.size ≤ g2 from hF2 g2 rfl)
            have HF2 := Lib.hid hF2
            have hml2 : L.length ≤ L.length := by omega
            clear hS2 hg2 hat2 hF2 cx1 hg1
            subst hv2
            go_wp2
            go_loopw [6] (fun z wx => ∃ q j, L.length ≤ q ∧ q ≤ L.length ∧ z = .int .i64 (q : Nat) ∧ Hid (Sl wx 9 1 (.slice (some ⟨g2, o2, none⟩) (L.length + 1 : Nat) c2) (L.length + 1) (enc (L.take q ++ j :: L.drop q))) ∧ Hid (Only [] w wx)) (fun z _ => (intOf z).toNat)
            case atStart => exact ⟨L.length, [], by omega, Nat.le_refl _, (by first | rfl | (congr 1; omega)), HS3, HO3⟩
            case round =>
              obtain ⟨q, j, hmq, hqL, rfl, HSq, HOq⟩ := hrel
              clear HS3 HO3
              obtain ⟨_, _, _, hv, hgw, _, _, hcc, hfq⟩ := HSq.out.form (by omega)
              injection hv with e1 e2 e3
              simp only [Option.some.injEq, Addr.mk.injEq, and_true] at e1
              obtain ⟨rfl, rfl⟩ := e1
              subst e3
              clear e2
              · have hqe : q = L.length := by omega
                subst hqe
                have hp := shift_here L j _ hqL
                have cxq : wr.cell? ⟨g, off + k, none⟩ = some (.string ⟨x.toArray⟩) := HXE.out ▸ (H.out.only HOq.out).cell_ hkl
                have d0 : wr.cell? ⟨g2, o2 + _, none⟩ = some (.string ⟨j.toArray⟩) := (hcc _ (by omega)).trans hp
                have HST := Lib.hid (shift_end L j x _ hqL)
                clear hcc hp
                have hSF : Sl (wr.setCell ⟨g2, o2 + L.length, none⟩ (.string ⟨x.toArray⟩)) 9 1 (.slice (some ⟨g2, o2, none⟩) (L.length + 1 : Nat) c2) (ordM mayB (ss.take (k + 1))).length (enc (ordM mayB (ss.take (k + 1)))) := by
                  rw [HE.out, HE2.out]
                  have h6 := Sl_set1 (i := L.length) HSq.out (.string ⟨x.toArray⟩)
                  rw [HST.out] at h6
                  have e6 : (L.take L.length ++ x :: L.drop L.length).length = L.length + 1 := by rw [List.length_append, List.length_cons, List.length_take, List.length_drop]; omega
                  rw [e6]
                  exact h6
                have HSF := Lib.hid hSF
                clear hSF
                go_wp2
                go_roundw
                case measure => simp [intOf]; omega
                case rel => exact ⟨k + 1, by omega, by go_num, Lib.hid ⟨HSF.out, HF2.out, HOq.out.setCell (.inr HN2.out) _⟩⟩
    · obtain rfl : k = ss.length := by omega
      have hS := HR.out.S
      rw [List.take_length] at hS
      have HS := Lib.hid hS
      clear hS
      go_wp2
      go_ret
      exact ⟨_, rfl, HS.out, HR.out.fresh, HR.out.O⟩
end Go.Proofs.Ytbcckaaleoofhaa
