/-
  The document's own queue: Take.
-/
import Derived.Test.YtlkfkdcdokinpaaRg
namespace Go.Proofs.Ytlkfkdcdokinpaa
open Go.RowKit Go.Fl


set_option maxRecDepth 100000 in
set_option maxHeartbeats 3200000 in
theorem rtake_go {r : Nat} {cap bytes : Int} {held line : List Item} {iv lv : Value} (most byt : Int) (w : World) (h : ROk w r cap bytes held line iv lv) :
    Calls Try.prog 14 #[.pointer (some ⟨r, 0, none⟩), .int .i64 most, .int .i64 byt] w (RTakeD w r (rblocks r iv lv) cap bytes (takeM cap bytes held line most byt)) := by
  obtain ⟨j0, hi, hz0, hz1, hz2⟩ := info_parts info38
  have H0 : RTE w r cap bytes held line iv lv most byt held.length (.slice none 0 0) w :=
    ⟨iv, [], held, rfl, ⟨rfl, h, Sl.nil _ _ _, fun g hg => absurd hg (by simp [Value.ownBlock]), fun g hg => absurd hg (by simp [Value.ownBlock]), Only.refl _ _, fun g hg => .inl hg, by simp, by simp [Go.Proofs.Ytlkfkdcdokinpaa.sum], fun x hx => by simp at hx⟩⟩
  have HLen := Lib.hid (show held.length ≤ 1024 by have := h.okh.len; have := h.okh.cap1; omega)
  have HSum := Lib.hid (show sum held ≤ 16777216 by have := h.okh.byt; have := h.okh.byt1; omega)
  clear h
  go_enter Try.func14, Try.ntmps14
  go_wp2
  go_loopg [8] held.length (fun k v wr => RTE w r cap bytes held line iv lv most byt k v wr)
  case atStart => exact H0
  case round =>
    clear H0
    obtain ⟨iv1, out, held1, hk, hE⟩ := hrel
    obtain ⟨hcell, hfz, hlt⟩ := hE.H.B.facts
    obtain ⟨a, c, hv, _, _⟩ := hE.O.shape
    have hls := sum_nonneg hE.pos
    have H := Lib.hid hE
    cases held1 with
    | nil =>
      obtain ⟨ai, ci, hiv, _, _⟩ := hE.H.I.shape
      clear hE
      simp only [List.length_nil] at *
      subst hv
      subst hiv
      go_wp2
      go_quiet (fail)
      have HS := Lib.hid (show takeL most byt out [] = (out, []) from by simp [takeL])
      have HE := Lib.hid (rcome_ok (wr.drewN nq) (H.out.H.only ((Only.refl [] wr).drewN nq) (by simp)))
      go_wp2_with fail
      refine HE.out.mono ?_
      clear HE
      rintro e w9 ⟨u9, rfl, hF9, hQ9⟩
      have HT := Lib.hid (rt_end (e := .returned (.tuple #[_, u9])) H.out HS.out ((Only.refl [] wr).drewN nq) hF9 hQ9 rfl)
      clear hF9 hQ9
      go_wp2
      refine bodyPost_ret (v := .tuple #[_, u9]) ?_ rfl HT.out
      simp [results, Try.results14, go_sem]
    | cons x held2 =>
      obtain ⟨g, off, cp, hiv, hg, hle, _, hcc, hfr⟩ := hE.H.I.form (by simp)
      have c0 : wr.cell? ⟨g, off, none⟩ = some (.int .i64 x.1) := hcc 0 (by simp)
      have c1 : wr.cell? ⟨g, off + 1, none⟩ = some (.int .i64 x.2) := hcc 1 (by simp; omega)
      have hx := hE.H.okh.sized x (List.mem_cons_self ..)
      have hsm := hE.sum
      rw [sum_cons] at hsm
      have hls2 := sum_nonneg (l := held2) (fun y hy => hE.H.okh.sized y (List.mem_cons_of_mem _ hy))
      have hsum := HSum.out
      have hpo : 0 < ((held2.length + 1 : Nat) : Int) := by omega
      have HC : ∀ n, Hid (Calls Try.prog 32 #[.slice a out.length c] (wr.drewN n) fun e w' => e = .returned (.int .i64 (sum out)) ∧ w' = wr.drewN n) := fun n => Lib.hid (by
        have := rsum_ok (v := .slice a out.length c) (l := out) (wr.drewN n) (by rw [← hv]; exact hE.O.drewN n) (by have := hE.len; have := HLen.out; omega) hE.pos
        exact this)
      simp only [List.length_cons] at *
      subst hv
      subst hiv
      clear hE hcc
      by_cases hm : (out.length : Int) < most
      · cases out with
        | nil =>
          have HST : Hid ((([] : List Item).length : Int) < most ∧ (([] : List Item) = [] ∨ sum ([] : List Item) + x.2 ≤ byt)) := Lib.hid ⟨hm, .inl rfl⟩
          simp only [List.length_nil, List.length_cons] at *
          have hmt : decide ((0 : Int) < most) = true := decide_eq_true (by simpa using hm)
          clear HC
          go_wp2
          go_quiet (fail)
          have HX1 := Lib.hid (show Blk ((wr.drewN nq).alloc (.cells #[.int .i64 x.1, .int .i64 x.2] 38)) wr.heap.size 38 #[.int .i64 x.1, .int .i64 x.2] from Blk.new _ _ _)
          go_wp2_with (at_builtin; refine wpList_append_one (news := [.int .i64 x.1, .int .i64 x.2]) rfl (.tmp 40) (.tmp 47) 31 rfl 38 j0 _ 2 16 Try.underlying31 hi hz0 hz1 hz2 rfl (by decide) rfl ((H.out.O.drewN nq).alloc _) rfl HX1.out rfl (by simp [Value.oneCell']) (by have h1 := H.out.len; have h2 := HLen.out; (try simp only [List.length_cons, List.length_nil] at h1 ⊢); unfold maxLen; omega) (by have h1 := H.out.len; have h2 := HLen.out; (try simp only [List.length_cons, List.length_nil] at h1 ⊢); omega) ?_)
          intro v2 w2 hO2 hg2 hat2
          have o2 : Only (Value.slice a 0 c).ownBlock.toList (wr.drewN nq) w2 := ((Only.refl _ _).alloc _).grown hg2 (fun k hk => .inl (by simp [hk]))
          have hH1 := H.out.H.only ((Only.refl [] wr).drewN nq) (by simp)
          have H2 := Lib.hid (hH1.only o2 (fun g hg hh => H.out.far g (by simpa using hh) hg))
          have hat2' : v2.ownBlock = (Value.slice a 0 c).ownBlock ∨ v2.ownBlock = some ((wr.drewN nq).heap.size + 1) := hat2.imp (fun x => x) (fun h => by rw [h]; simp)
          obtain ⟨av, cv, hv2, _, _⟩ := hO2.shape
          clear hcell hfz hlt
          obtain ⟨hcell, hfz, hlt⟩ := H2.out.B.facts
          have HCUT := Lib.hid (H2.out.I.cut (k := 1) (by simp))
          have HO2 := Lib.hid hO2
          have O2 := Lib.hid o2
          have HAT2 := Lib.hid hat2'
          clear hO2 o2 hat2 hat2' hg2 hH1 c0 c1 HX1
          subst hv2
          have hn4 : ((1 : Int)) ≤ ((held2.length + 1 : Nat) : Int) := by omega
          have HLen2 := Lib.hid (show held2.length ≤ 1024 by have := HLen.out; have := H2.out.okh.len; have := H2.out.okh.cap1; simp at *; omega)
          by_cases hc1 : cp = 1
          all_goals
            have h5 := HCUT.out
            simp only [hc1, Addr.add, if_true, if_false, Option.map_some, Nat.one_mul, Nat.add_sub_cancel, List.length_cons, Nat.sub_self] at h5
            have HC5 := Lib.hid h5
            clear h5
            go_wp2_with (at_builtin; refine wpList_append_sls (m := held2.length) (news := cells held2) rfl (.const (.slice none 0 0)) (.tmp 54) 31 rfl 38 j0 _ 2 16 Try.underlying31 hi hz0 hz1 hz2 rfl (by decide) rfl (Sl.nil _ _ _) rfl HC5.out (cells_one _) (by have := HLen2.out; unfold maxLen; omega) (by have := HLen2.out; omega) ?_)
            intro v4 w4 hS4 hg4 hat4
            have o4 : Only [] w2 w4 := (Only.refl _ _).grown hg4 (fun k hk => by simp [Value.ownBlock] at hk)
            have hat4' : ∀ g, v4.ownBlock = some g → w2.heap.size ≤ g := fun g hg => by
              rcases hat4 with h | h
              · rw [h] at hg; simp [Value.ownBlock] at hg
              · rw [h] at hg; injection hg with hg; subst hg; simp
            have hB4 := H2.out.B.only o4 (by simp)
            have H4 := Lib.hid (r_hold (held' := held2) H2.out H2.out.okh.tail (by simpa using hS4) (o4.mono (by simp)) (.inr hat4'))
            obtain ⟨a4, c4, hv4, _, _⟩ := hS4.shape
            clear hcell hfz hlt
            obtain ⟨hcell5, hfz5, hlt5⟩ := hB4.facts
            have O4 := Lib.hid o4
            have HAT4 := Lib.hid hat4'
            clear hS4 hg4 hat4 hat4' o4 hB4 HC5
            subst hv4
            go_wp2
            go_roundg held2.length
            case measure => omega
            case rel => exact ⟨_, [] ++ [x], held2, rfl, rt_step H.out (by simpa using HST.out) ((Only.refl [] wr).drewN nq) HO2.out O2.out HAT2.out H4.out O4.out HAT4.out⟩
        | cons y out =>
          have hpo : 0 < ((out.length + 1 : Nat) : Int) := by omega
          have hmt : decide ((out.length : Int) + 1 < most) = true := decide_eq_true (by simpa using hm)
          have hwr : IntKind.i64.wrap (sum (y :: out) + x.2) = sum (y :: out) + x.2 := IntWalk.i64_in _ (by omega)
          have hz : ((out.length : Int) + 1 == 0) = false := by simp; omega
          by_cases hb : sum (y :: out) + x.2 ≤ byt
          · have HST : Hid (((y :: out).length : Int) < most ∧ (y :: out = [] ∨ sum (y :: out) + x.2 ≤ byt)) := Lib.hid ⟨hm, .inr hb⟩
            have hbb : decide (sum (y :: out) + x.2 ≤ byt) = true := decide_eq_true hb
            simp only [List.length_cons] at *
            go_wp2
            go_quiet ((go_at_call 32; exact Calls.quiet_of_same (HC _).out))
            have HX1 := Lib.hid (show Blk ((wr.drewN nq).alloc (.cells #[.int .i64 x.1, .int .i64 x.2] 38)) wr.heap.size 38 #[.int .i64 x.1, .int .i64 x.2] from Blk.new _ _ _)
            go_wp2_with (at_builtin; refine wpList_append_one (news := [.int .i64 x.1, .int .i64 x.2]) rfl (.tmp 40) (.tmp 47) 31 rfl 38 j0 _ 2 16 Try.underlying31 hi hz0 hz1 hz2 rfl (by decide) rfl ((H.out.O.drewN nq).alloc _) rfl HX1.out rfl (by simp [Value.oneCell']) (by have h1 := H.out.len; have h2 := HLen.out; (try simp only [List.length_cons, List.length_nil] at h1 ⊢); unfold maxLen; omega) (by have h1 := H.out.len; have h2 := HLen.out; (try simp only [List.length_cons, List.length_nil] at h1 ⊢); omega) ?_)
            intro v2 w2 hO2 hg2 hat2
            have o2 : Only (Value.slice a (out.length + 1 : Nat) c).ownBlock.toList (wr.drewN nq) w2 := ((Only.refl _ _).alloc _).grown hg2 (fun k hk => .inl (by simp [hk]))
            have hH1 := H.out.H.only ((Only.refl [] wr).drewN nq) (by simp)
            have H2 := Lib.hid (hH1.only o2 (fun g hg hh => H.out.far g (by simpa using hh) hg))
            have hat2' : v2.ownBlock = (Value.slice a (out.length + 1 : Nat) c).ownBlock ∨ v2.ownBlock = some ((wr.drewN nq).heap.size + 1) := hat2.imp (fun x => x) (fun h => by rw [h]; simp)
            obtain ⟨av, cv, hv2, _, _⟩ := hO2.shape
            clear hcell hfz hlt
            obtain ⟨hcell, hfz, hlt⟩ := H2.out.B.facts
            have HCUT := Lib.hid (H2.out.I.cut (k := 1) (by simp))
            have HO2 := Lib.hid hO2
            have O2 := Lib.hid o2
            have HAT2 := Lib.hid hat2'
            clear hO2 o2 hat2 hat2' hg2 hH1 c0 c1 HX1
            subst hv2
            have hn4 : ((1 : Int)) ≤ ((held2.length + 1 : Nat) : Int) := by omega
            have HLen2 := Lib.hid (show held2.length ≤ 1024 by have := HLen.out; have := H2.out.okh.len; have := H2.out.okh.cap1; simp at *; omega)
            by_cases hc1 : cp = 1
            all_goals
              have h5 := HCUT.out
              simp only [hc1, Addr.add, if_true, if_false, Option.map_some, Nat.one_mul, Nat.add_sub_cancel, List.length_cons, Nat.sub_self] at h5
              have HC5 := Lib.hid h5
              clear h5
              go_wp2_with (at_builtin; refine wpList_append_sls (m := held2.length) (news := cells held2) rfl (.const (.slice none 0 0)) (.tmp 54) 31 rfl 38 j0 _ 2 16 Try.underlying31 hi hz0 hz1 hz2 rfl (by decide) rfl (Sl.nil _ _ _) rfl HC5.out (cells_one _) (by have := HLen2.out; unfold maxLen; omega) (by have := HLen2.out; omega) ?_)
              intro v4 w4 hS4 hg4 hat4
              have o4 : Only [] w2 w4 := (Only.refl _ _).grown hg4 (fun k hk => by simp [Value.ownBlock] at hk)
              have hat4' : ∀ g, v4.ownBlock = some g → w2.heap.size ≤ g := fun g hg => by
                rcases hat4 with h | h
                · rw [h] at hg; simp [Value.ownBlock] at hg
                · rw [h] at hg; injection hg with hg; subst hg; simp
              have hB4 := H2.out.B.only o4 (by simp)
              have H4 := Lib.hid (r_hold (held' := held2) H2.out H2.out.okh.tail (by simpa using hS4) (o4.mono (by simp)) (.inr hat4'))
              obtain ⟨a4, c4, hv4, _, _⟩ := hS4.shape
              clear hcell hfz hlt
              obtain ⟨hcell5, hfz5, hlt5⟩ := hB4.facts
              have O4 := Lib.hid o4
              have HAT4 := Lib.hid hat4'
              clear hS4 hg4 hat4 hat4' o4 hB4 HC5
              subst hv4
              go_wp2
              go_roundg held2.length
              case measure => omega
              case rel => exact ⟨_, (y :: out) ++ [x], held2, rfl, rt_step H.out (by simpa using HST.out) ((Only.refl [] wr).drewN nq) HO2.out O2.out HAT2.out H4.out O4.out HAT4.out⟩
          · have HB := Lib.hid hb
            have hbb : decide (sum (y :: out) + x.2 ≤ byt) = false := decide_eq_false hb
            simp only [List.length_cons] at *
            go_wp2
            go_quiet ((go_at_call 32; exact Calls.quiet_of_same (HC _).out))
            have HS := Lib.hid (show takeL most byt (y :: out) (x :: held2) = ((y :: out), (x :: held2)) from by rw [takeL, if_neg (fun hh => by have h1 := HB.out; rcases hh.2 with h2 | h2; { exact absurd h2 (by simp) }; { omega })])
            have HE := Lib.hid (rcome_ok (wr.drewN nq) (H.out.H.only ((Only.refl [] wr).drewN nq) (by simp)))
            go_wp2_with fail
            refine HE.out.mono ?_
            clear HE
            rintro e w9 ⟨u9, rfl, hF9, hQ9⟩
            have HT := Lib.hid (rt_end (e := .returned (.tuple #[_, u9])) H.out HS.out ((Only.refl [] wr).drewN nq) hF9 hQ9 rfl)
            clear hF9 hQ9
            go_wp2
            refine bodyPost_ret (v := .tuple #[_, u9]) ?_ rfl HT.out
            simp [results, Try.results14, go_sem]
      · have HM := Lib.hid hm
        have hmb : decide ((out.length : Int) < most) = false := decide_eq_false hm
        have hm2 : most ≤ (out.length : Int) := by omega
        clear HC
        go_wp2
        go_quiet (fail)
        have HS := Lib.hid (show takeL most byt out (x :: held2) = (out, (x :: held2)) from by rw [takeL, if_neg (fun hh => by have := HM.out; have := hh.1; omega)])
        have HE := Lib.hid (rcome_ok (wr.drewN nq) (H.out.H.only ((Only.refl [] wr).drewN nq) (by simp)))
        go_wp2_with fail
        refine HE.out.mono ?_
        clear HE
        rintro e w9 ⟨u9, rfl, hF9, hQ9⟩
        have HT := Lib.hid (rt_end (e := .returned (.tuple #[_, u9])) H.out HS.out ((Only.refl [] wr).drewN nq) hF9 hQ9 rfl)
        clear hF9 hQ9
        go_wp2
        refine bodyPost_ret (v := .tuple #[_, u9]) ?_ rfl HT.out
        simp [results, Try.results14, go_sem]
theorem rtake_ok {r : Nat} {cap bytes : Int} {held line : List Item} {S : List Nat} (most byt : Int) (w : World) (h : RIs w r S cap bytes held line) :
    Calls Try.prog 14 #[.pointer (some ⟨r, 0, none⟩), .int .i64 most, .int .i64 byt] w (RTakeD w r S cap bytes (takeM cap bytes held line most byt)) := by
  obtain ⟨iv, lv, h, hS⟩ := h
  refine (rtake_go most byt w h).mono ?_
  rintro e w' ⟨v, u, h1, h2, h3, h4⟩
  exact ⟨v, u, h1, h2, h3, h4.mono hS⟩
end Go.Proofs.Ytlkfkdcdokinpaa
