/-
  NameAll: it answers true and leaves all that was there.
-/
import Derived.Test.YtbcckaaleoofhaaOl
import Derived.Test.YtbcckaaleoofhaaNl
import Derived.Test.YtbcckaaleoofhaaArgs3
import Derived.Deep.RegionHeld3
namespace Go.Proofs.Ytbcckaaleoofhaa
open Go.RowKit Go.Fl Go.Sort

theorem num_nil : numM [] = (0, false) := by kernel_rfl
theorem Strs.of_row {w : World} {v : Value} {l : List (List UInt8)} (h : Row (fun s : List UInt8 => .string ⟨s.toArray⟩) w v l) : Strs w v l := h
theorem Strs.row {w : World} {v : Value} {l : List (List UInt8)} (h : Strs w v l) : Row (fun s : List UInt8 => .string ⟨s.toArray⟩) w v l := h
theorem i64_range {a : Int} (h : (Lit.int .i64 a).wf = true) : -9223372036854775808 ≤ a ∧ a ≤ 9223372036854775807 := by
  simp [Lit.wf, IntKind.min, IntKind.max, IntKind.bits, IntKind.signed] at h
  omega
def markL : List UInt8 := [109, 97, 114, 107]
def spoiltV : Value := .string ⟨#[115, 112, 111, 105, 108, 116]⟩
theorem SlS.only' {w w' : World} {v : Value} {l : List (List UInt8)} {T : List Nat} (h : SlS w v l) (ho : Only T w w') (hT : 0 < l.length → ∀ g, v.ownBlock = some g → g ∉ T) : SlS w' v l := by
  obtain ⟨a, cap, rfl, h1, h2, h3⟩ := h
  refine ⟨a, cap, rfl, h1, h2, fun h0 => ?_⟩
  obtain ⟨g, off, rfl, hg, hh⟩ := h3 h0
  refine ⟨g, off, rfl, Nat.lt_of_lt_of_le hg ho.size, fun i hi => ?_⟩
  have hn := hT h0 g rfl
  exact ⟨(ho.cell (p := ⟨g, off + i, none⟩) hg hn).trans (hh i hi).1, (ho.frozen (p := ⟨g, off + i, none⟩) hg hn).trans (hh i hi).2⟩
theorem SlS.at_ {w : World} {v : Value} {l : List (List UInt8)} (h : SlS w v l) {i : Nat} (hi : i < l.length) :
    ∃ g off c, v = .slice (some ⟨g, off, none⟩) l.length c ∧ g < w.heap.size ∧ w.cell? ⟨g, off + i, none⟩ = some (.string ⟨l[i].toArray⟩) ∧ w.frozen? ⟨g, off + i, none⟩ = false := by
  obtain ⟨a, c, rfl, _, _, hc⟩ := h
  obtain ⟨g, off, rfl, hg, hh⟩ := hc (by omega)
  have := hh i (by simpa using hi)
  rw [arr_at l i hi] at this
  exact ⟨g, off, c, rfl, hg, this.1, this.2⟩
/-- What of a slice is yet as it was: from the k-th on. -/
def Rest (w : World) (g off : Nat) (l : List (List UInt8)) (k : Nat) : Prop := ∀ j (h : j < l.length), k ≤ j → w.cell? ⟨g, off + j, none⟩ = some (.string ⟨l[j].toArray⟩) ∧ w.frozen? ⟨g, off + j, none⟩ = false
theorem Rest.step {w : World} {g off k : Nat} {l : List (List UInt8)} (h : Rest w g off l k) (u : Value) : Rest (w.setCell ⟨g, off + k, none⟩ u) g off l (k + 1) := fun j hj hk => by
  obtain ⟨h1, h2⟩ := h j hj (by omega)
  exact ⟨(World.cell?_setCell_other (w := w) (a := ⟨g, off + k, none⟩) (b := ⟨g, off + j, none⟩) (v := u) (fun e => by injection e; omega)).trans h1, by rw [World.frozen?_setCell]; exact h2⟩

set_option maxRecDepth 100000 in
set_option maxHeartbeats 3200000 in
theorem all_row (w : World) (v0 v1 : Value) (ss : List (List UInt8)) (h0 : Strs w v0 ss) (ns : List Int) (h1 : Row (fun s : Int => .int .i64 s) w v1 ns) (hr : ∀ i (h : i < ns.length), (Lit.int .i64 ns[i]).wf = true) :
    Calls Try.prog 3 #[v0, v1] w fun e w' => e = .returned (.bool true) ∧ Only [] w w' := by
  obtain ⟨j9, si, sz0, sz1, sz2⟩ := info_parts info9
  have HB := Lib.hid (begun_ok w)
  have H0 := Lib.hid h0
  have H1 := Lib.hid h1
  have HR := Lib.hid hr
  clear hr
  obtain ⟨a0, c0, hv0, hc0, hcm0, _⟩ := h0
  obtain ⟨a1, c1, hv1, hc1, hcm1, _⟩ := h1
  subst hv0
  subst hv1
  have hs0 : ss.length ≤ 9223372036854775807 := by unfold maxLen at hcm0; omega
  have hs1 : ns.length ≤ 9223372036854775807 := by unfold maxLen at hcm1; omega
  go_enter Try.func3, Try.ntmps3
  go_wp2_with fail
  refine HB.out.mono ?_
  clear HB
  rintro e w1 ⟨rfl, hO1⟩
  have HO1 := Lib.hid hO1
  clear hO1
  go_wp2
  go_loopw [5] (fun z wr => ∃ k : Nat, k ≤ ss.length ∧ z = .int .i64 k ∧ Hid (Only [] w wr)) (fun z _ => ss.length - (intOf z).toNat)
  case atStart => exact ⟨0, Nat.zero_le _, rfl, HO1⟩
  case round =>
    obtain ⟨k, hk, rfl, HO⟩ := hrel
    by_cases hkl : k < ss.length
    · have hkz : (k : Int) < (ss.length : Int) := by omega
      obtain ⟨a', c', hv', _, _, hcell⟩ := H0.out.only HO.out
      obtain ⟨g, off, ha, hg, hcc⟩ := hcell (by omega)
      injection hv' with e1 e2 e3
      subst e1
      subst e3
      subst ha
      clear e2
      obtain ⟨x, hx⟩ : ∃ x, ss[k] = x := ⟨_, rfl⟩
      have cx : wr.cell? ⟨g, off + k, none⟩ = some (.string ⟨x.toArray⟩) := hx ▸ hcc k hkl
      have HN := Lib.hid (number_gen x wr)
      have HRN := Lib.hid (rnumber_gen x wr)
      clear hcc hcell hx
      go_wp2_with fail
      refine HN.out.mono ?_
      clear HN
      rintro e w2 ⟨rfl, rfl⟩
      go_wp2_with fail
      refine HRN.out.mono ?_
      clear HRN
      rintro e w2 ⟨rfl, hO2⟩
      have HO2 := Lib.hid (HO.out.trans hO2)
      have cx2 : w2.cell? ⟨g, off + k, none⟩ = some (.string ⟨x.toArray⟩) := (hO2.cell (p := ⟨g, off + k, none⟩) hg (by simp)).trans cx
      have hg2 := Nat.lt_of_lt_of_le hg hO2.size
      clear hO2
      have HM : ∀ w, Hid (Calls Try.prog 8 #[.string ⟨x.toArray⟩] w fun e w' => e = .returned (.bool (mayB x)) ∧ w' = w) := fun w => Lib.hid (may_ok x w)
      have HRM : ∀ w, Hid (Calls Try.prog 9 #[.string ⟨x.toArray⟩] w fun e w' => e = .returned (.bool (mayB x)) ∧ w' = w) := fun w => Lib.hid (rmay_ok x w)
      have HK : ∀ w, Hid (Calls Try.prog 10 #[.string ⟨x.toArray⟩] w fun e w' => e = .returned (.int .i64 (kindM x)) ∧ w' = w) := fun w => Lib.hid (kind_gen x w)
      have HRK : ∀ w, Hid (Calls Try.prog 11 #[.string ⟨x.toArray⟩] w fun e w' => e = .returned (.int .i64 (kindM x)) ∧ Only [] w w') := fun w => Lib.hid (rkind_gen x w)
      go_wp2
      go_region_held3 (fun w' => w'.cell? ⟨g, off + k, none⟩ = some (.string ⟨x.toArray⟩)) (first | exact cx2 | exact cx3)
        (first
          | (go_at_call 8; refine (HM _).out.mono ?_; rintro e w3 ⟨rfl, rfl⟩)
          | (go_at_call 9; refine (HRM _).out.mono ?_; rintro e w3 ⟨rfl, rfl⟩)
          | (go_at_call 10; refine (HK _).out.mono ?_; rintro e w3 ⟨rfl, rfl⟩)
          | (go_at_call 11; refine (HRK _).out.mono ?_; rintro e w3 ⟨rfl, hO3⟩; have HO3 := Lib.hid (HO2.out.drew.trans hO3); have cx3 : w3.cell? ⟨g, off + k, none⟩ = some (.string ⟨x.toArray⟩) := (hO3.cell (p := ⟨g, off + k, none⟩) hg2 (by simp)).trans cx2; clear hO3))
      go_wp2
      go_roundw
      case measure => simp [intOf]; omega
      case rel => exact ⟨k + 1, by omega, by go_num, HO3⟩
    · obtain rfl : k = ss.length := by omega
      go_wp2
      clear HO1
      go_loopw [10] (fun z wr => ∃ k : Nat, k ≤ ns.length ∧ z = .int .i64 k ∧ Hid (Only [] w wr)) (fun z _ => ns.length - (intOf z).toNat)
      case atStart => exact ⟨0, Nat.zero_le _, rfl, HO⟩
      case round =>
        clear HO
        obtain ⟨k, hk, rfl, HO⟩ := hrel
        by_cases hkl : k < ns.length
        · have hkz : (k : Int) < (ns.length : Int) := by omega
          obtain ⟨a', c', hv', _, _, hcell⟩ := H1.out.only HO.out
          obtain ⟨g, off, ha, hg, hcc⟩ := hcell (by omega)
          injection hv' with e1 e2 e3
          subst e1
          subst e3
          subst ha
          clear e2
          obtain ⟨x, hx⟩ : ∃ x, ns[k] = x := ⟨_, rfl⟩
          have cx : wr.cell? ⟨g, off + k, none⟩ = some (.int .i64 x) := hx ▸ hcc k hkl
          have hx2 := i64_range (hx ▸ HR.out k hkl)
          clear hcc hcell hx
          by_cases h1x : 1 ≤ x
          · obtain ⟨n, rfl⟩ : ∃ n : Nat, x = n := ⟨x.toNat, by omega⟩
            have hn1 : 1 ≤ n := by omega
            have hn2 : n < 9223372036854775808 := by omega
            have HS := Lib.hid (segment_ok n wr hn1 hn2)
            clear h1x hx2
            go_wp2_with fail
            refine HS.out.mono ?_
            clear HS
            rintro e w2 ⟨rfl, hO2⟩
            have HO2 := Lib.hid (HO.out.trans hO2)
            have cx2 : w2.cell? ⟨g, off + k, none⟩ = some (.int .i64 n) := (hO2.cell (p := ⟨g, off + k, none⟩) hg (by simp)).trans cx
            have hg2 := Nat.lt_of_lt_of_le hg hO2.size
            have HS := Lib.hid (rsegment_ok n w2 hn1 hn2)
            clear hO2
            go_wp2_with fail
            refine HS.out.mono ?_
            clear HS
            rintro e w3 ⟨rfl, hO3⟩
            have HO3 := Lib.hid (HO2.out.trans hO3)
            have cx3 : w3.cell? ⟨g, off + k, none⟩ = some (.int .i64 n) := (hO3.cell (p := ⟨g, off + k, none⟩) hg2 (by simp)).trans cx2
            have HN := Lib.hid (number_seg n w3 hn1 hn2)
            clear hO3
            go_wp2_with fail
            refine HN.out.mono ?_
            clear HN
            rintro e w3 ⟨rfl, rfl⟩
            have hnz : (1 : Int) ≤ (n : Int) := by omega
            go_wp2
            go_roundw
            case measure => simp [intOf]; omega
            case rel => exact ⟨k + 1, by omega, by go_num, HO3⟩
          · have h1y : x < 1 := by omega
            have HS := Lib.hid (segment_bad x wr h1y)
            go_wp2_with fail
            refine HS.out.mono ?_
            clear HS
            rintro e w2 ⟨rfl, hO2⟩
            have HO2 := Lib.hid (HO.out.trans hO2)
            have cx2 : w2.cell? ⟨g, off + k, none⟩ = some (.int .i64 x) := (hO2.cell (p := ⟨g, off + k, none⟩) hg (by simp)).trans cx
            have hg2 := Nat.lt_of_lt_of_le hg hO2.size
            have HS := Lib.hid (rsegment_bad x w2 h1y)
            clear hO2
            go_wp2_with fail
            refine HS.out.mono ?_
            clear HS
            rintro e w3 ⟨rfl, hO3⟩
            have HO3 := Lib.hid (HO2.out.trans hO3)
            have cx3 : w3.cell? ⟨g, off + k, none⟩ = some (.int .i64 x) := (hO3.cell (p := ⟨g, off + k, none⟩) hg2 (by simp)).trans cx2
            have HN := Lib.hid (number_gen [] w3)
            rw [num_nil] at HN
            clear hO3
            go_wp2_with fail
            refine HN.out.mono ?_
            clear HN
            rintro e w3 ⟨rfl, rfl⟩
            go_wp2
            go_roundw
            case measure => simp [intOf]; omega
            case rel => exact ⟨k + 1, by omega, by go_num, HO3⟩
        · obtain rfl : k = ns.length := by omega
          by_cases hbig : (200 : Int) < (ss.length : Int)
          · go_wp2
            go_ret
            exact ⟨rfl, HO.out⟩
          · have hs2 : ss.length ≤ 200 := by omega
            have H0r := Lib.hid (H0.out.only HO.out).row
            clear HR H1 hs0 hs1
            go_wp2_with (at_builtin; refine wpList_append_row (f := fun s : List UInt8 => .string ⟨s.toArray⟩) rfl (.const (.slice none 0 0)) (.tmp 140) 22 rfl 9 j9 _ 16 Try.underlying22 si sz0 sz1 sz2 rfl rfl (Sl.nil _ _ _) rfl H0r.out (fun u => by simp [Value.oneCell']) (by unfold maxLen; omega) (by omega) ?_)
            intro v2 w2 hS2 hg2 hat2
            have HF2 : Hid (∀ k, v2.ownBlock = some k → w.heap.size ≤ k) := Lib.hid (fun k hk => by
              rcases hat2 with h | h
              · exact nomatch (h.symm.trans hk)
              · rw [h] at hk; injection hk with hk; subst hk; exact HO.out.size)
            have HO2 := Lib.hid (HO.out.grown hg2 (fun k hk => by cases hk))
            have HS2 : Hid (Sl w2 9 1 v2 ss.length (enc ss)) := Lib.hid (by simpa [enc] using hS2)
            clear hS2 hg2 hat2 H0r
            go_wp2_with (at_builtin; refine wpList_append_one (news := [.string ⟨#[109, 97, 114, 107]⟩]) rfl (.tmp 141) (.tmp 142) 22 rfl 9 j9 _ 1 16 Try.underlying22 si sz0 sz1 sz2 rfl (by decide) rfl (HS2.out.alloc _) rfl (Blk.new _ _ _) rfl (by simp [Value.oneCell']) (by unfold maxLen; omega) (by omega) ?_)
            intro v3 w3 hS3 hg3 hat3
            have HO3 := Lib.hid ((HO2.out.alloc (.cells #[.string ⟨#[109, 97, 114, 107]⟩] 9)).grown hg3 (fun k hk => .inr (HF2.out k hk)))
            obtain ⟨g, off, c, hv3, hg, hcl, hcm, hcc, _⟩ := hS3.form (by omega)
            have HH := Lib.hid (show Strs w3 (.slice (some ⟨g, off, none⟩) ss.length c) ss from ⟨_, _, rfl, by omega, hcm, fun _ => ⟨g, off, rfl, hg, fun i hi => by
              rw [hcc i (by omega), List.getElem?_append_left (by rw [enc_length]; exact hi), enc_at hi]⟩⟩)
            have HMk := Lib.hid (show w3.cell? ⟨g, off + ss.length, none⟩ = some (.string ⟨#[109, 97, 114, 107]⟩) by
              rw [hcc ss.length (by omega), List.getElem?_append_right (by rw [enc_length]; omega), enc_length, Nat.sub_self]; rfl)
            have HG := Lib.hid hg
            clear hS3 hg3 hat3 HS2 HF2 HO2 HO hcc hg hcm
            subst hv3
            have HA := Lib.hid (order_gen w3 HH.out (by omega))
            go_wp2_with fail
            refine HA.out.mono ?_
            clear HA
            rintro e w4 ⟨u1, rfl, hS4, hF4, hO4⟩
            have HS4 := Lib.hid hS4
            have HF4 := Lib.hid hF4
            have HO4 := Lib.hid hO4
            clear hS4 hF4 hO4
            have HA := Lib.hid (order_gen w4 (HH.out.only HO4.out) (by omega))
            go_wp2_with fail
            refine HA.out.mono ?_
            clear HA
            rintro e w5 ⟨u2, rfl, hS5, hF5, hO5⟩
            have HS5 := Lib.hid hS5
            have HF5 := Lib.hid hF5
            have HO5 := Lib.hid hO5
            clear hS5 hF5 hO5
            have HOa := Lib.hid (HO3.out.trans (HO4.out.trans HO5.out))
            have HA := Lib.hid (rorder_ok w5 (H0.out.only HOa.out) (by omega))
            go_wp2_with fail
            refine HA.out.mono ?_
            clear HA
            rintro e w6 ⟨u3, rfl, hS6, hF6, hO6⟩
            have HS6 := Lib.hid (SlS.of_sl hS6)
            have HF6 := Lib.hid hF6
            have HO6 := Lib.hid hO6
            clear hS6 hF6 hO6
            have HOb := Lib.hid (HOa.out.trans HO6.out)
            have HH6 := Lib.hid (HH.out.only (HO4.out.trans (HO5.out.trans HO6.out)))
            have HM6 := Lib.hid (((HO4.out.trans (HO5.out.trans HO6.out)).cell (p := ⟨g, off + ss.length, none⟩) HG.out (by simp)).trans HMk.out)
            have HG6 := Lib.hid (Nat.lt_of_lt_of_le HG.out (HO4.out.trans (HO5.out.trans HO6.out)).size)
            have H06 := Lib.hid (H0.out.only HOb.out)
            clear HH HMk HG HOa
            generalize ordM mayB ss = L at HS4 HS5 HS6
            obtain ⟨x1, y1, hu1, _, _, hcells1⟩ := HS4.out
            obtain ⟨x2, y2, hu2, _, _, _⟩ := HS5.out
            obtain ⟨x3, y3, hu3, _, _, _⟩ := HS6.out
            have hLl : L.length ≤ 9223372036854775807 := by unfold maxLen at *; omega
            subst hu1
            subst hu2
            subst hu3
            have HFs : Hid (w3.heap.size ≤ w3.heap.size) := Lib.hid (Nat.le_refl _)
            obtain ⟨g1, o1, hgw, hx1⟩ : ∃ g1 o1, w.heap.size ≤ g1 ∧ (0 < L.length → x1 = some ⟨g1, o1, none⟩ ∧ g1 < w4.heap.size) := by
              rcases Nat.eq_zero_or_pos L.length with h | h
              · exact ⟨w.heap.size, 0, Nat.le_refl _, fun h2 => by omega⟩
              · obtain ⟨gg, oo, hx, hlt, _⟩ := hcells1 h
                exact ⟨gg, oo, Nat.le_trans HO3.out.size (HF4.out gg (by rw [hx]; rfl)), fun _ => ⟨hx, hlt⟩⟩
            have HX1 := Lib.hid hx1
            have HGW := Lib.hid hgw
            clear hx1 hgw hcells1 HF4 HO3
            go_wp2
            go_loopw [21] (fun z wr => ∃ k : Nat, k ≤ ss.length ∧ z = .int .i64 k ∧ Hid (Only [] w6 wr)) (fun z _ => ss.length - (intOf z).toNat)
            case atStart => exact ⟨0, Nat.zero_le _, rfl, Lib.hid (Only.refl _ _)⟩
            case round =>
              obtain ⟨k, hk, rfl, HO⟩ := hrel
              by_cases hkl : k < ss.length
              · have hkz : (k : Int) < (ss.length : Int) := by omega
                obtain ⟨a', c', hv', _, _, hcell⟩ := H06.out.only HO.out
                obtain ⟨g0, off0, ha, hg0, hcc⟩ := hcell (by omega)
                injection hv' with e1 e2 e3
                subst e1
                subst e3
                subst ha
                clear e2
                obtain ⟨x, hx⟩ : ∃ x, ss[k] = x := ⟨_, rfl⟩
                have cx : wr.cell? ⟨g0, off0 + k, none⟩ = some (.string ⟨x.toArray⟩) := hx ▸ hcc k hkl
                obtain ⟨a', c', hv', _, _, hcell⟩ := HH6.out.only HO.out
                obtain ⟨g', off', ha, hg', hcc'⟩ := hcell (by omega)
                injection hv' with e1 e2 e3
                subst ha
                simp only [Option.some.injEq, Addr.mk.injEq, and_true] at e1
                obtain ⟨rfl, rfl⟩ := e1
                have cy : wr.cell? ⟨g, off + k, none⟩ = some (.string ⟨x.toArray⟩) := hx ▸ hcc' k hkl
                clear hcc hcell hx hcc' e2 e3 hg'
                go_wp2
                go_quiet (fail)
                go_wp2
                go_roundw
                case measure => simp [intOf]; omega
                case rel => exact ⟨k + 1, by omega, by go_num, Lib.hid (HO.out.drewN _)⟩
              · obtain rfl : k = ss.length := by omega
                have cm : wr.cell? ⟨g, off + ss.length, none⟩ = some (.string ⟨#[109, 97, 114, 107]⟩) := (HO.out.cell (p := ⟨g, off + ss.length, none⟩) HG6.out (by simp)).trans HM6.out
                have HS1 := Lib.hid ((HS4.out.only ((HO5.out.trans HO6.out).trans HO.out) (by simp)))
                have HS2 := Lib.hid ((HS5.out.only (HO6.out.trans HO.out) (by simp)))
                have HS3 := Lib.hid (HS6.out.only HO.out (by simp))
                have HOW := Lib.hid (HOb.out.trans HO.out)
                have hF5 := HF5.out
                have hF6 := HF6.out
                have h45 := HO5.out.size
                go_wp2
                go_loopw [22] (fun z wq => ∃ k : Nat, k ≤ L.length ∧ z = .int .i64 k ∧ Hid (Only [g1] wr wq) ∧ Hid (Rest wq g1 o1 L k)) (fun z _ => L.length - (intOf z).toNat)
                case atStart => exact ⟨0, Nat.zero_le _, rfl, Lib.hid (Only.refl _ _), Lib.hid (fun j hj _ => by
                  obtain ⟨gg, oo, cc, hv, _, h1, h2⟩ := HS1.out.at_ hj
                  obtain ⟨hx, _⟩ := HX1.out (by omega)
                  subst hx
                  injection hv with e1 _ _
                  simp only [Option.some.injEq, Addr.mk.injEq, and_true] at e1
                  obtain ⟨rfl, rfl⟩ := e1
                  exact ⟨h1, h2⟩)⟩
                case round =>
                  obtain ⟨k, hk, rfl, HO4, HRs⟩ := hrel
                  have hT3 : 0 < L.length → ∀ gg, (Value.slice x3 L.length y3).ownBlock = some gg → gg ∉ [g1] := fun h0 gg hgg => by
                    have h1 := hF6 gg hgg
                    have h2 := (HX1.out h0).2
                    simp; omega
                  have hT2 : 0 < L.length → ∀ gg, (Value.slice x2 L.length y2).ownBlock = some gg → gg ∉ [g1] := fun h0 gg hgg => by
                    have h1 := hF5 gg hgg
                    have h2 := (HX1.out h0).2
                    simp; omega
                  by_cases hkl : k < L.length
                  · have hkz : (k : Int) < (L.length : Int) := by omega
                    obtain ⟨hx, _⟩ := HX1.out (by omega)
                    have hc1 := HRs.out k hkl (Nat.le_refl _)
                    obtain ⟨gg, oo, cc, hv, hg3, h1, _⟩ := (HS3.out.only' HO4.out hT3).at_ hkl
                    injection hv with e1 e2 e3
                    obtain ⟨y, hy⟩ : ∃ y, L[k] = y := ⟨_, rfl⟩
                    rw [hy] at h1 hc1
                    obtain ⟨cy, fy⟩ := hc1
                    clear hT2 hT3 hF5 hF6 hy e2
                    subst hx
                    subst e1
                    subst e3
                    go_wp2
                    go_quiet (fail)
                    go_wp2
                    go_roundw
                    case measure => simp [intOf]; omega
                    case rel => exact ⟨k + 1, by omega, by go_num, Lib.hid ((HO4.out.drewN _).setCell (p := ⟨g1, o1 + k, none⟩) (.inl (by simp)) _), Lib.hid (Rest.step (w := wr.drewN nq) HRs.out _)⟩
                  · obtain rfl : k = L.length := by omega
                    have HT2 := Lib.hid (HS2.out.only' HO4.out hT2)
                    have HT3 := Lib.hid (HS3.out.only' HO4.out hT3)
                    have HEND := Lib.hid (HOW.out.trans' HO4.out (fun i hi => .inr (by simp at hi; subst hi; exact HGW.out)))
                    clear hT2 hT3 hF5 hF6 HRs
                    go_wp2
                    go_loopw [23] (fun z wp => ∃ k : Nat, k ≤ L.length ∧ z = .int .i64 k ∧ Hid (Only [] wr wp)) (fun z _ => L.length - (intOf z).toNat)
                    case atStart => exact ⟨0, Nat.zero_le _, rfl, Lib.hid (Only.refl _ _)⟩
                    case round =>
                      obtain ⟨k, hk, rfl, HO5⟩ := hrel
                      by_cases hkl : k < L.length
                      · have hkz : (k : Int) < (L.length : Int) := by omega
                        obtain ⟨gg, oo, cc, hv, hg3, h1, _⟩ := (HT3.out.only HO5.out (by simp)).at_ hkl
                        obtain ⟨gg2, oo2, cc2, hv2, hg4, h2, _⟩ := (HT2.out.only HO5.out (by simp)).at_ hkl
                        injection hv with e1 e2 e3
                        injection hv2 with e4 e5 e6
                        obtain ⟨y, hy⟩ : ∃ y, L[k] = y := ⟨_, rfl⟩
                        rw [hy] at h1 h2
                        clear hy e2 e5
                        subst e1
                        subst e3
                        subst e4
                        subst e6
                        go_wp2
                        go_quiet (fail)
                        go_wp2
                        go_roundw
                        case measure => simp [intOf]; omega
                        case rel => exact ⟨k + 1, by omega, by go_num, Lib.hid (HO5.out.drewN _)⟩
                      · obtain rfl : k = L.length := by omega
                        go_wp2
                        go_ret
                        exact ⟨rfl, HEND.out.trans HO5.out⟩
theorem all_row' (w : World) (v0 : Value) (ss : List (List UInt8)) (h0 : Row (fun s : List UInt8 => .string ⟨s.toArray⟩) w v0 ss) (v1 : Value) (ns : List Int) (h1 : Row (fun s : Int => .int .i64 s) w v1 ns) (hr : ∀ i (h : i < ns.length), (Lit.int .i64 ns[i]).wf = true) :
    Calls Try.prog 3 #[v0, v1] w fun e w' => e = .returned (.bool true) ∧ Only [] w w' := all_row w v0 v1 ss h0 ns h1 hr
end Go.Proofs.Ytbcckaaleoofhaa
