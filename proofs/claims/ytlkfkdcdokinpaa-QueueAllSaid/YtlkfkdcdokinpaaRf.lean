/-
  The document's own queue: come.
-/
import Derived.Test.YtlkfkdcdokinpaaRe
namespace Go.Proofs.Ytlkfkdcdokinpaa
open Go.RowKit Go.Fl

set_option maxRecDepth 100000 in
set_option maxHeartbeats 1600000 in
theorem rcome_ok {r : Nat} {cap bytes : Int} {held line : List Item} {iv lv : Value} (w : World) (h : ROk w r cap bytes held line iv lv) :
    Calls Try.prog 33 #[.pointer (some ⟨r, 0, none⟩)] w fun e w' => ∃ v, e = .returned v ∧ FreshI w w' v (come cap bytes held line).1 ∧ RStep w w' r (rblocks r iv lv) cap bytes (come cap bytes held line).2.1 (come cap bytes held line).2.2 := by
  obtain ⟨j0, hi, hz0, hz1, hz2⟩ := info_parts info38
  obtain ⟨j2, ki, kz0, kz1, kz2⟩ := info_parts info2
  have H0 : RCE w r cap bytes held line iv lv line.length (.slice none 0 0) w :=
    ⟨iv, lv, [], held, line, rfl, ⟨rfl, h, Sl.nil _ _ _, fun g hg => by simp [Value.ownBlock] at hg, Only.refl _ _, fun g hg => .inl hg, by simp⟩⟩
  have hll := h.lenl
  clear h
  go_enter Try.func33, Try.ntmps33
  go_wp2
  go_loopg [3] line.length (fun k v wr => RCE w r cap bytes held line iv lv k v wr)
  case atStart => exact H0
  case round =>
    clear H0
    obtain ⟨iv1, lv1, out, held1, line1, hk, hE⟩ := hrel
    obtain ⟨hcell, hfz, hlt⟩ := hE.H.B.facts
    obtain ⟨ai, ci, hiv, _, _⟩ := hE.H.I.shape
    have hlen1 := hE.H.okh.len
    have hlen2 := hE.H.okh.cap1
    have hlen3 := hE.len
    cases line1 with
    | nil =>
      obtain ⟨a, c, hlv, hlc, _⟩ := hE.H.L.shape
      have HE := Lib.hid hE
      simp only [List.length_nil] at *
      clear hE
      subst hlv
      subst hiv
      go_wp2
      go_ret
      exact ⟨_, rfl, rc_end HE.out (Only.refl _ _) (by simp [come])⟩
    | cons x line2 =>
      obtain ⟨g, off, cp, hlv, hg, hle, _, hcc, hfr⟩ := hE.H.L.form (by simp)
      have c0 : wr.cell? ⟨g, off, none⟩ = some (.int .i64 x.1) := hcc 0 (by simp)
      have c1 : wr.cell? ⟨g, off + 1, none⟩ = some (.int .i64 x.2) := hcc 1 (by simp; omega)
      have hx := hE.H.okl x (List.mem_cons_self ..)
      have hpo : 0 < ((line2.length + 1 : Nat) : Int) := by omega
      have HE := Lib.hid hE
      simp only [List.length_cons] at *
      subst hlv
      subst hiv
      clear hE hcc
      have HR := Lib.hid (rroom_ok x.2 wr HE.out.H hx.1 hx.2)
      cases hr : hasRoom cap bytes held1 x.2 with
      | false =>
        rw [hr] at HR
        have HH := Lib.hid hr
        clear hr
        go_wp2_with fail
        refine HR.out.mono ?_
        clear HR
        rintro e w1 ⟨rfl, m, rfl⟩
        go_wp2
        go_ret
        exact ⟨_, rfl, rc_end HE.out ((Only.refl [] _).drewN _) (by simp [come, HH.out])⟩
      | true =>
        rw [hr] at HR
        have HH := Lib.hid hr
        clear hr
        go_wp2_with fail
        refine HR.out.mono ?_
        clear HR
        rintro e w1 ⟨rfl, m, rfl⟩
        have HX1 := Lib.hid (show Blk ((wr.drewN m).alloc (.cells #[.int .i64 x.1] 2)) wr.heap.size 2 #[.int .i64 x.1] from Blk.new _ _ _)
        go_wp2_with (at_builtin; refine wpList_append_one (news := [.int .i64 x.1]) rfl (.tmp 21) (.tmp 29) 32 rfl 2 j2 _ 1 8 Try.underlying32 ki kz0 kz1 kz2 rfl (by decide) rfl ((HE.out.O.drewN m).alloc _) rfl HX1.out rfl (by simp [Value.oneCell']) (by unfold maxLen; omega) (by omega) ?_)
        intro v2 w2 hO2 hg2 hat2
        have o2 : Only u3.ownBlock.toList (wr.drewN m) w2 := ((Only.refl _ _).alloc _).grown hg2 (fun k hk => .inl (by simp [hk]))
        have hH1 := HE.out.H.only ((Only.refl [] wr).drewN m) (by simp)
        have hO1 := HE.out.O.drewN m
        have H2 := Lib.hid (hH1.only o2 (fun g hg hh => by
          rw [mem_r'] at hg
          rcases hg with rfl | hg | hg
          · exact blk_sl_ne hH1.B hO1 (by decide) (by simpa using hh)
          · exact sl_sl_ne hH1.I hO1 (by decide) g hg (by simpa using hh)
          · exact sl_sl_ne hH1.L hO1 (by decide) g hg (by simpa using hh)))
        have hat2' : v2.ownBlock = u3.ownBlock ∨ v2.ownBlock = some ((wr.drewN m).heap.size + 1) := hat2.imp (fun x => x) (fun h => by rw [h]; simp)
        obtain ⟨av, cv, hv2, _, _⟩ := hO2.shape
        obtain ⟨hcell2, hfz2, hlt2⟩ := H2.out.B.facts
        obtain ⟨g', off', cp', hlv', hg', _, _, hcc, _⟩ := H2.out.L.form (by simp)
        injection hlv' with e1 e2 e3
        clear e2
        simp only [Option.some.injEq, Addr.mk.injEq, and_true] at e1
        obtain ⟨rfl, rfl⟩ := e1
        subst e3
        have d0 : w2.cell? ⟨g, off, none⟩ = some (.int .i64 x.1) := hcc 0 (by simp)
        have d1 : w2.cell? ⟨g, off + 1, none⟩ = some (.int .i64 x.2) := hcc 1 (by simp; omega)
        have HO2 := Lib.hid hO2
        have O2 := Lib.hid o2
        have HAT2 := Lib.hid hat2'
        clear hO2 o2 hat2 hat2' hcc hg2 hH1 hO1 c0 c1 hcell hfz hlt HX1
        subst hv2
        go_wp2
        refine Lex.wp_region_text (by kernel_rfl) (by kernel_rfl) ?_
        go_wp2_with (at_builtin; refine wpList_append_one (news := [.int .i64 x.1, .int .i64 x.2]) rfl (.tmp 35) (.tmp 42) 31 rfl 38 j0 _ 2 16 Try.underlying31 hi hz0 hz1 hz2 rfl (by decide) rfl (H2.out.I.drew.alloc _) rfl (Blk.new _ _ _) rfl (by simp [Value.oneCell']) (by unfold maxLen; omega) (by omega) ?_)
        intro v3 w3 hS3 hg3 hat3
        have o3 : Only (Value.slice ai held1.length ci).ownBlock.toList w2 w3 := (((Only.refl _ _).drew).alloc _).grown hg3 (fun k hk => .inl (by simp [hk]))
        have hat3' : v3.ownBlock = (Value.slice ai held1.length ci).ownBlock ∨ ∀ g, v3.ownBlock = some g → w2.heap.size ≤ g := hat3.imp (fun x => x) (fun h g hg => by rw [h] at hg; injection hg with hg; subst hg; simp)
        have hB3 := H2.out.B.only o3 (not_own H2.out.ri)
        have H3 := Lib.hid (r_in (x := x) H2.out hx HH.out hS3 o3 hat3')
        obtain ⟨a3, c3, hv3, _, _⟩ := hS3.shape
        obtain ⟨hcell3, hfz3, hlt3⟩ := hB3.facts
        have O3 := Lib.hid o3
        have HAT3 := Lib.hid hat3'
        clear hS3 hg3 hat3 hat3' o3 hB3 hcell2 hfz2 hlt2 d0 d1
        subst hv3
        go_wp2
        refine Lex.sq_done (by rfl) ?_
        clear hcell3 hfz3 hlt3
        obtain ⟨hcell4, hfz4, hlt4⟩ := H3.out.B.facts
        have HCUT := Lib.hid (H3.out.L.cut (k := 1) (by simp))
        have hn4 : ((1 : Int)) ≤ ((line2.length + 1 : Nat) : Int) := by omega
        by_cases hc1 : cp = 1
        all_goals
          have h5 := HCUT.out
          simp only [hc1, Addr.add, if_true, if_false, Option.map_some, Nat.one_mul, Nat.add_sub_cancel, List.length_cons, Nat.sub_self] at h5
          have HC5 := Lib.hid h5
          clear h5
          go_wp2_with (at_builtin; refine wpList_append_sls (m := line2.length) (news := cells line2) rfl (.const (.slice none 0 0)) (.tmp 51) 31 rfl 38 j0 _ 2 16 Try.underlying31 hi hz0 hz1 hz2 rfl (by decide) rfl (Sl.nil _ _ _) rfl HC5.out (cells_one _) (by unfold maxLen; omega) (by omega) ?_)
          intro v4 w4 hS4 hg4 hat4
          have o4 : Only [] (w3.setCell ⟨r, 2, none⟩ (.slice a3 (held1.length + 1) c3)) w4 := (Only.refl _ _).grown hg4 (fun k hk => by simp [Value.ownBlock] at hk)
          have hat4' : ∀ g, v4.ownBlock = some g → w3.heap.size ≤ g := fun g hg => by
            rcases hat4 with h | h
            · rw [h] at hg; simp [Value.ownBlock] at hg
            · rw [h] at hg; injection hg with hg; subst hg; simp
          have hB4 := H3.out.B.only o4 (by simp)
          have H4 := Lib.hid (r_line (line' := line2) H3.out (fun y hy => H3.out.okl y (List.mem_cons_of_mem _ hy)) (by have := H3.out.lenl; simp at this; omega) (by simpa using hS4) (o4.mono (by simp)) (.inr fun g hg => by have := hat4' g hg; simpa using this))
          obtain ⟨a4, c4, hv4, _, _⟩ := hS4.shape
          clear hcell4 hfz4 hlt4
          obtain ⟨hcell5, hfz5, hlt5⟩ := hB4.facts
          have O4 := Lib.hid o4
          have HAT4 := Lib.hid hat4'
          clear hS4 hg4 hat4 hat4' o4 hB4 HC5
          subst hv4
          go_wp2
          go_roundg line2.length
          case measure => omega
          case rel => exact ⟨_, _, out ++ [x.1], held1 ++ [x], line2, rfl, rc_step HE.out HH.out ((Only.refl [] wr).drewN m) HO2.out O2.out HAT2.out H3.out O3.out HAT3.out H4.out O4.out HAT4.out⟩
end Go.Proofs.Ytlkfkdcdokinpaa
