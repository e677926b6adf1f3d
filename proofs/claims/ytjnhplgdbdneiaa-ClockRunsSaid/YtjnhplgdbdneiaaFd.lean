/-
  ClockRuns: the walk.
-/
import Derived.Test.YtjnhplgdbdneiaaFc
set_option linter.unusedSimpArgs false
set_option linter.unusedVariables false
namespace Go.Proofs.Ytjnhplgdbdneiaa
open Go.RowKit Go.Fl

theorem wpList_append_slsW {P : Program} {w : World} {ops : Array Oper} {rest : List Oper} {o : Oper} {a : Act} {Q : Exit → Act → World → Prop} (hgd : Region.wanted o (yielded ops a.tmps) = true) (s x : Operand) (t : TypeId)
    (ho : o.op = .call { callee := .builtin .append, args := #[s, x], argTypes := #[t, t] })
    (e : TypeId) (i : TypeInfo) (z : Value) (size bytes : Nat) (ht : P.underlying t = some (.slice e)) (hi : P.info? e = some i) (hz : i.zero = some z)
    (hsize : i.size = size) (hby : i.bytes = bytes) (hzs : z.cells.size = size) (hsz : 0 < size)
    {v : Value} {n : Nat} {xs : List Value} (hs : a.eval s = v) (hown : Sl w e size v n xs)
    {vx : Value} {m : Nat} {news : List Value} (hx : a.eval x = vx) (hxs : Sl w e size vx m news) (h1 : ∀ u ∈ news, u.oneCell' = true)
    (h63 : n + m ≤ maxLen) (hbytes : (n + m) * bytes ≤ 140737488355328)
    (h : ∀ v' w', Sl w' e size v' (n + m) (xs ++ news) → w.grownBy w' v.ownBlock → (v'.ownBlock = v.ownBlock ∨ v'.ownBlock = some w.heap.size) → wpList P ops Q rest (a.put o.dst v') w') : wpList P ops Q (o :: rest) a w := by
  refine wpList_step fun K hK => ?_
  simp only [hgd, if_true]
  obtain ⟨v', w', hr, h2, h3, h4⟩ := run_append_sls (P := P) t o.type e i z size bytes ht hi hz hsize hby hzs hsz hown hxs h1 h63 hbytes
  unfold Oper.wp execOp
  simp only [ho, resolve, invoke, builtin, Sem.run_bind, Sem.run_pure, Result.andThen_ok, List.map_toArray, List.map_cons, List.map_nil, hs, hx, hr]
  exact hK _ _ (h v' w' h2 h3 h4)
/-- Timers have been set at both. -/
structure R1 (w wr : World) (ra rb n : Nat) (l L : List Tm) (sa sb : Value) : Prop where
  pp : PP w wr ra 0 n l sa rb 0 n l sb
  rel : Rel l L
  ids : ∀ y ∈ L, y.1 ≤ (n : Int)
  len : l.length = n
set_option maxRecDepth 1000000 in
set_option maxHeartbeats 6400000 in
theorem runs3 (w : World) {ds : List Nat} {v : Value} (h : Row (fun s : Nat => .int .u64 s) w v ds) (hd : ∀ i (h : i < ds.length), ds[i] < 18446744073709551616) (u1 : Int) (hu1 : 0 ≤ u1 ∧ u1 < 18446744073709551616) (u2 : Int) (hu2 : 0 ≤ u2 ∧ u2 < 18446744073709551616) :
    Calls Try.prog 3 #[v, .int .u64 u1, .int .u64 u2] w fun e w' => e = .returned (.bool true) ∧ Only [] w w' := by
  obtain ⟨j3, si, sz0, sz1, sz2⟩ := info_parts info3
  obtain ⟨a, cap, rfl, h1, h2, h3⟩ := h
  have hlm : ds.length ≤ maxLen := by omega
  have HLM := Lib.hid hlm
  have HC := Lib.hid h3
  have HD := Lib.hid hd
  have e1 := e10
  obtain ⟨x, hx⟩ : ∃ x, u1.toNat = x := ⟨_, rfl⟩
  obtain ⟨y, hy⟩ : ∃ y, u2.toNat = y := ⟨_, rfl⟩
  have HXL := Lib.hid (show x < 18446744073709551616 by omega)
  have HYL := Lib.hid (show y < 18446744073709551616 by omega)
  have ex : ∀ w : World, (callFunc 10 #[.int .u64 u1]).run Try.prog w = .ok (.value (.float .f64 x)) w := fun w => by rw [e1, hx]
  have ey : ∀ w : World, (callFunc 10 #[.int .u64 u2]).run Try.prog w = .ok (.value (.float .f64 y)) w := fun w => by rw [e1, hy]
  have HQ := Lib.hid (begun7 w)
  clear h1 h2 h3 hd hu1 hu2 hlm hx hy
  go_enter Try.func3, Try.ntmps3
  go_wp2_with fail
  refine HQ.out.mono ?_
  clear HQ
  rintro e w1 ⟨rfl, ho⟩
  have HO1 := Lib.hid ho
  clear ho
  have HQ := Lib.hid (new8 w1 0 (by decide))
  go_wp2_with fail
  refine HQ.out.mono ?_
  clear HQ
  rintro e w2 (⟨hnz, rfl, hc, ho⟩ | ⟨hn, _⟩)
  case inr => exact absurd (by decide +kernel : plB 0 = true ∧ plV 0 ≠ 9218868437227405312) hn
  clear hnz
  rw [show plV 0 = 0 by decide +kernel] at hc
  have HC2 := Lib.hid hc
  have HO2 := Lib.hid ho
  clear hc ho
  have HQ := Lib.hid (new8 w2 0 (by decide))
  go_wp2_with fail
  refine HQ.out.mono ?_
  clear HQ
  rintro e w3 (⟨hnz, rfl, hc, ho⟩ | ⟨hn, _⟩)
  case inr => exact absurd (by decide +kernel : plB 0 = true ∧ plV 0 ≠ 9218868437227405312) hn
  clear hnz
  rw [show plV 0 = 0 by decide +kernel] at hc
  have HR := Lib.hid (show R1 w w3 w1.heap.size w2.heap.size 0 [] [] (.slice none 0 0) (.slice none 0 0) from
    ⟨⟨HC2.out.only0 ho, hc, fun e => by have := HC2.out.blk.lt; omega, fun g hg => (by cases hg), HO1.out.size, by have := HO1.out.size; have := HO2.out.size; omega, fun g hg => (by cases hg), fun g hg => (by cases hg), (HO1.out.trans HO2.out).trans ho⟩, Rel.nil, fun y hy => (by cases hy), rfl⟩)
  clear hc ho HC2 HO1 HO2
  generalize w1.heap.size = ra at *
  generalize w2.heap.size = rb at *
  go_wp2
  go_loopw [11] (fun z wr => ∃ (k n : Nat) (l L : List Tm) (sa sb : Value), z = .int .i64 k ∧ Hid (k ≤ ds.length ∧ k ≤ 200 ∧ n ≤ k) ∧ Hid (R1 w wr ra rb n l L sa sb)) (fun z _ => 200 - (intOf z).toNat)
  case atStart => exact ⟨0, 0, [], [], _, _, rfl, Lib.hid ⟨Nat.zero_le _, Nat.zero_le _, Nat.le_refl _⟩, HR⟩
  case round =>
    obtain ⟨k, n, l, L, sa, sb, rfl, HK, HI⟩ := hrel
    by_cases hkl : k < ds.length ∧ k < 200
    case neg =>
      have hcs : (¬ (k : Int) < (ds.length : Int)) ∨ ((k : Int) < (ds.length : Int) ∧ ¬ (k : Int) < 200) := by omega
      have HN2 := Lib.hid (show n ≤ 200 by have := HK.out; omega)
      clear hkl HK
      rcases hcs with hcs | ⟨hcs, hcs2⟩
      ·
        cases hpx : plB x
        · have h0 : ¬ x % 9223372036854775808 = 0 := fun e => by rw [plB_zero e] at hpx; cases hpx
          have hg2 := plB_pos h0
          rw [hpx] at hg2
          have hz := pl_zero x
          rw [decide_eq_false h0] at hz
          have hg3 : (FloatKind.f64.format.order x 0 == some .gt) = false := hg2.symm
          clear hg2 h0 hpx e1
          go_wp2
          exact bodyPost_ret (results_tmp rfl _ _ _) rfl ⟨rfl, HI.out.pp.only⟩
        have HPX := Lib.hid hpx
        have hcs2 : ((FloatKind.f64.format.order x 0 == some .gt) = true) ∨ ((FloatKind.f64.format.order x 0 == some .gt) = false ∧ (FloatKind.f64.format.order x 0 == some .eq) = true) := by
          have hz := pl_zero x
          by_cases h0 : x % 9223372036854775808 = 0
          · rw [decide_eq_true h0] at hz
            cases hgg : (FloatKind.f64.format.order x 0 == some .gt)
            · exact .inr ⟨rfl, hz⟩
            · exact .inl rfl
          · have hg2 := plB_pos h0
            rw [hpx] at hg2
            exact .inl hg2.symm
        clear hpx e1
        cases hyg : (FloatKind.f64.format.order y x == some .gt) <;> cases hye : (FloatKind.f64.format.order y x == some .eq)
        · rcases hcs2 with h5 | ⟨h5, h6⟩
          ·
            go_wp2
            exact bodyPost_ret (results_tmp rfl _ _ _) rfl ⟨rfl, HI.out.pp.only⟩
          ·
            go_wp2
            exact bodyPost_ret (results_tmp rfl _ _ _) rfl ⟨rfl, HI.out.pp.only⟩
        · have HLT := Lib.hid (later HXL.out HYL.out HPX.out (.inr hye))
          rcases hcs2 with h5 | ⟨h5, h6⟩
          ·
            have HQ := Lib.hid (inf11 wr y HYL.out)
            by_cases hyi : y = 9218868437227405312
            · rw [decide_eq_true hyi] at HQ
              clear hyi
              go_wp2_with fail
              refine HQ.out.mono ?_
              clear HQ
              rintro e w4 ⟨rfl, rfl⟩
              go_wp2
              exact bodyPost_ret (results_tmp rfl _ _ _) rfl ⟨rfl, HI.out.pp.only⟩
            rw [decide_eq_false hyi] at HQ
            have HYI := Lib.hid (show plV y ≠ 9218868437227405312 from fun e => hyi (by
              have h1 := (plB_le HYL.out HLT.out.1).2
              rw [e] at h1
              have h2 := HYL.out
              have h3 := (of_decide_eq_true HLT.out.1).2
              rcases rk_cases y with ⟨h4, h5⟩ | ⟨h4, h5⟩ <;> rw [h5] at h3 <;> omega))
            clear hyi
            go_wp2_with fail
            refine HQ.out.mono ?_
            clear HQ
            rintro e w4 ⟨rfl, rfl⟩
            clear hyg hye h5
            have HXH := Lib.hid (show plV x < 9218868437227405312 by have := HLT.out.2; have := (plB_le HYL.out HLT.out.1).1; have := HYI.out; omega)
            have HLL := Lib.hid (show l.length ≤ 1048576 by rw [HI.out.len]; have := HN2.out; omega)
            have HQ := Lib.hid (go12 w4 (d := x) HI.out.pp.ca HI.out.rel (by decide) HXL.out HLL.out)
            go_wp2_with fail
            refine HQ.out.mono ?_
            clear HQ
            intro e w5 hp
            unfold GoPost at hp
            rw [if_pos ⟨HPX.out, Nat.zero_le _, Nat.ne_of_lt HXH.out⟩] at hp
            obtain ⟨A1, B1, m1, s1, z1, rfl, hgr, hh⟩ := hp
            obtain ⟨a1, c1, hz, hsh⟩ := hgr.sl.shape
            subst hz
            clear hsh
            have HG1 := Lib.hid hgr
            have HP1 := Lib.hid (HI.out.pp.left hgr.ck hgr.gw)
            have HLM1 := Lib.hid (show m1.length ≤ 1048576 by
              have h1 := hgr.rel.len
              have h2 := HI.out.rel.len
              rw [hgr.eq, List.length_append] at h2
              have := HLL.out
              omega)
            clear hgr hh
            have HQ := Lib.hid (go12 w5 (d := y) HP1.out.ca HG1.out.rel HXH.out HYL.out HLM1.out)
            go_wp2_with fail
            refine HQ.out.mono ?_
            clear HQ
            intro e w6 hp
            unfold GoPost at hp
            rw [if_pos ⟨HLT.out.1, HLT.out.2, HYI.out⟩] at hp
            obtain ⟨A2, B2, m2, s2, z2, rfl, hgr, hh⟩ := hp
            obtain ⟨a2, c2, hz, hsh⟩ := hgr.sl.shape
            subst hz
            clear hsh
            have HG2 := Lib.hid hgr
            have HH2 := Lib.hid hh
            have HP2 := Lib.hid (HP1.out.left hgr.ck hgr.gw)
            have HS1 := Lib.hid (sl_keepGW HG1.out.sl HP1.out.ca hgr.gw (by decide) (by decide))
            clear hgr hh
            have HQ := Lib.hid (go12 w6 (d := y) HP2.out.cb HI.out.rel (by decide) HYL.out HLL.out)
            go_wp2_with fail
            refine HQ.out.mono ?_
            clear HQ
            intro e w7 hp
            unfold GoPost at hp
            rw [if_pos ⟨HLT.out.1, Nat.zero_le _, HYI.out⟩] at hp
            obtain ⟨A3, B3, m3, s3, z3, rfl, hgr, hh⟩ := hp
            have hab : A1 ++ A2 = A3 ∧ B2 = B3 := gone_uniq (t := plV y) (by rw [List.append_assoc, ← HG2.out.eq, ← HG1.out.eq, ← hgr.eq]) (fun x hx => by
              rcases List.mem_append.1 hx with hx | hx
              · have := HG1.out.le x hx
                have := HLT.out.2
                omega
              · exact HG2.out.le x hx) HH2.out hgr.le hh
            obtain ⟨hA, hB⟩ := hab
            subst hB
            have HA := Lib.hid (show A1.length + A2.length = A3.length ∧ idc A1 ++ idc A2 = idc A3 by rw [← hA, List.length_append, idc_append]; exact ⟨rfl, rfl⟩)
            clear hA
            have HML := Lib.hid (show m3.length = m2.length by rw [hgr.rel.len, HG2.out.rel.len])
            have HM2 := Lib.hid (show m2.length ≤ 1048576 by
              have h1 := HG2.out.rel.len
              have h2 := HG1.out.rel.len
              rw [HG2.out.eq, List.length_append] at h2
              have := HLM1.out
              omega)
            have HAL := Lib.hid (show A1.length + A2.length ≤ 1048576 by
              have h2 := HI.out.rel.len
              have h3 := HG1.out.rel.len
              rw [HG1.out.eq, HG2.out.eq, List.length_append, List.length_append] at h2
              have := HLL.out
              omega)
            obtain ⟨a3, c3, hz, hsh⟩ := hgr.sl.shape
            subst hz
            clear hsh
            have HG3 := Lib.hid hgr
            have HP3 := Lib.hid (HP2.out.symm.left hgr.ck hgr.gw).symm
            have HS2 := Lib.hid (sl_keepGW HS1.out HP2.out.cb hgr.gw (by decide) (by decide))
            have HT2 := Lib.hid (sl_keepGW HG2.out.sl HP2.out.cb hgr.gw (by decide) (by decide))
            clear hgr hh
            have hyy : (FloatKind.f64.format.order (plV y) y == some .eq) = true := by
              have h0 := of_decide_eq_true HLT.out.1
              have hle := plB_le HYL.out HLT.out.1
              have := ford_eq (rk_le hle.1).2 h0.1
              show (ford (plV y) y == some .eq) = true
              rw [this, (rk_le hle.1).1]
              refine decide_eq_true ?_
              rw [hle.2]
              rcases rk_cases y with ⟨_, e⟩ | ⟨_, e⟩ <;> rw [e] at h0 ⊢
              have := h0.2
              omega
            have HYY := Lib.hid hyy
            clear hyy
            go_wp2_with (at_builtin; refine wpList_append_slsW (by rfl) (.tmp 101) (.tmp 102) 34 rfl 3 j3 _ 1 8 Try.underlying34 si sz0 sz1 sz2 rfl (by decide) rfl HS2.out rfl HT2.out (by intro u hu; obtain ⟨t, _, rfl⟩ := List.mem_map.1 hu; rfl) (by have := HAL.out; unfold maxLen; omega) (by have := HAL.out; omega) ?_)
            intro b2 w8 hS hg hat
            rw [HA.out.1, HA.out.2] at hS
            obtain ⟨ba, bc, hb2, hsh⟩ := hS.shape
            subst hb2
            clear hsh
            have HS8 := Lib.hid hS
            have HZ8 := Lib.hid (HG3.out.sl.keep (w' := w8) fun g hg3 => hg.block g (HG3.out.sl.lt g hg3) (fun e => by
              have h1 := HG3.out.fresh g hg3
              obtain ⟨cur, hb⟩ := sl_ty HS1.out (show _ = some g from e.symm)
              have := hb.lt
              omega))
            have HP8 := Lib.hid (HP3.out.keepT (w3 := w8) (fun g t cur hb ht => hg.block g hb.lt (fun e => by
              obtain ⟨cur2, hb2⟩ := sl_ty HS2.out (show _ = some g from e.symm)
              refine Blk.ne_ hb hb2 ?_ rfl
              rcases ht with rfl | rfl <;> decide)) (HP3.out.only.grown hg fun g hg1 => .inr (by
                have h1 := HG1.out.fresh g hg1
                have := HI.out.pp.only.size
                omega)))
            clear hS hg hat
            have HQ := Lib.hid (ids13 w8 HS8.out HZ8.out (by rw [← HA.out.1]; exact HAL.out))
            go_wp2_with fail
            refine HQ.out.mono ?_
            clear HQ
            rintro e w9 ⟨rfl, ho⟩
            have HP9 := Lib.hid (HP8.out.only0 ho)
            clear ho
            have HQ := Lib.hid (now_ck HP9.out.ca)
            go_wp2_with fail
            refine HQ.out.mono ?_
            clear HQ
            rintro e w10 ⟨rfl, rfl⟩
            have hyy := HYY.out
            have HQ := Lib.hid (timers15 HP9.out.ca (sort_all (by have := HM2.out; omega)) HM2.out)
            go_wp2_with fail
            refine HQ.out.mono ?_
            clear HQ
            rintro e w11 ⟨v1, d1, rfl, hs1, hs2, hs3, hs4, ho⟩
            obtain ⟨b1, f1, rfl, hsh⟩ := hs1.shape
            have HP11 := Lib.hid (HP9.out.only0 ho)
            clear hs1 hs2 hs3 hs4 ho hsh hyy
            have HQ := Lib.hid (timers15 HP11.out.cb (sort_all (by rw [HML.out]; have := HM2.out; omega)) (by rw [HML.out]; exact HM2.out))
            go_wp2_with fail
            refine HQ.out.mono ?_
            clear HQ
            rintro e w12 ⟨v1, d1, rfl, hs1, hs2, hs3, hs4, ho⟩
            obtain ⟨b1, f1, rfl, hsh⟩ := hs1.shape
            have HO12 := Lib.hid (HP11.out.only.trans ho)
            have hml := HML.out
            clear hs1 hs2 hs3 hs4 ho hsh
            rw [hml]
            go_wp2
            exact bodyPost_ret (results_tmp rfl _ _ _) rfl ⟨rfl, HO12.out⟩
          ·
            have HQ := Lib.hid (inf11 wr y HYL.out)
            by_cases hyi : y = 9218868437227405312
            · rw [decide_eq_true hyi] at HQ
              clear hyi
              go_wp2_with fail
              refine HQ.out.mono ?_
              clear HQ
              rintro e w4 ⟨rfl, rfl⟩
              go_wp2
              exact bodyPost_ret (results_tmp rfl _ _ _) rfl ⟨rfl, HI.out.pp.only⟩
            rw [decide_eq_false hyi] at HQ
            have HYI := Lib.hid (show plV y ≠ 9218868437227405312 from fun e => hyi (by
              have h1 := (plB_le HYL.out HLT.out.1).2
              rw [e] at h1
              have h2 := HYL.out
              have h3 := (of_decide_eq_true HLT.out.1).2
              rcases rk_cases y with ⟨h4, h5⟩ | ⟨h4, h5⟩ <;> rw [h5] at h3 <;> omega))
            clear hyi
            go_wp2_with fail
            refine HQ.out.mono ?_
            clear HQ
            rintro e w4 ⟨rfl, rfl⟩
            clear hyg hye h5
            have HXH := Lib.hid (show plV x < 9218868437227405312 by have := HLT.out.2; have := (plB_le HYL.out HLT.out.1).1; have := HYI.out; omega)
            have HLL := Lib.hid (show l.length ≤ 1048576 by rw [HI.out.len]; have := HN2.out; omega)
            have HQ := Lib.hid (go12 w4 (d := x) HI.out.pp.ca HI.out.rel (by decide) HXL.out HLL.out)
            go_wp2_with fail
            refine HQ.out.mono ?_
            clear HQ
            intro e w5 hp
            unfold GoPost at hp
            rw [if_pos ⟨HPX.out, Nat.zero_le _, Nat.ne_of_lt HXH.out⟩] at hp
            obtain ⟨A1, B1, m1, s1, z1, rfl, hgr, hh⟩ := hp
            obtain ⟨a1, c1, hz, hsh⟩ := hgr.sl.shape
            subst hz
            clear hsh
            have HG1 := Lib.hid hgr
            have HP1 := Lib.hid (HI.out.pp.left hgr.ck hgr.gw)
            have HLM1 := Lib.hid (show m1.length ≤ 1048576 by
              have h1 := hgr.rel.len
              have h2 := HI.out.rel.len
              rw [hgr.eq, List.length_append] at h2
              have := HLL.out
              omega)
            clear hgr hh
            have HQ := Lib.hid (go12 w5 (d := y) HP1.out.ca HG1.out.rel HXH.out HYL.out HLM1.out)
            go_wp2_with fail
            refine HQ.out.mono ?_
            clear HQ
            intro e w6 hp
            unfold GoPost at hp
            rw [if_pos ⟨HLT.out.1, HLT.out.2, HYI.out⟩] at hp
            obtain ⟨A2, B2, m2, s2, z2, rfl, hgr, hh⟩ := hp
            obtain ⟨a2, c2, hz, hsh⟩ := hgr.sl.shape
            subst hz
            clear hsh
            have HG2 := Lib.hid hgr
            have HH2 := Lib.hid hh
            have HP2 := Lib.hid (HP1.out.left hgr.ck hgr.gw)
            have HS1 := Lib.hid (sl_keepGW HG1.out.sl HP1.out.ca hgr.gw (by decide) (by decide))
            clear hgr hh
            have HQ := Lib.hid (go12 w6 (d := y) HP2.out.cb HI.out.rel (by decide) HYL.out HLL.out)
            go_wp2_with fail
            refine HQ.out.mono ?_
            clear HQ
            intro e w7 hp
            unfold GoPost at hp
            rw [if_pos ⟨HLT.out.1, Nat.zero_le _, HYI.out⟩] at hp
            obtain ⟨A3, B3, m3, s3, z3, rfl, hgr, hh⟩ := hp
            have hab : A1 ++ A2 = A3 ∧ B2 = B3 := gone_uniq (t := plV y) (by rw [List.append_assoc, ← HG2.out.eq, ← HG1.out.eq, ← hgr.eq]) (fun x hx => by
              rcases List.mem_append.1 hx with hx | hx
              · have := HG1.out.le x hx
                have := HLT.out.2
                omega
              · exact HG2.out.le x hx) HH2.out hgr.le hh
            obtain ⟨hA, hB⟩ := hab
            subst hB
            have HA := Lib.hid (show A1.length + A2.length = A3.length ∧ idc A1 ++ idc A2 = idc A3 by rw [← hA, List.length_append, idc_append]; exact ⟨rfl, rfl⟩)
            clear hA
            have HML := Lib.hid (show m3.length = m2.length by rw [hgr.rel.len, HG2.out.rel.len])
            have HM2 := Lib.hid (show m2.length ≤ 1048576 by
              have h1 := HG2.out.rel.len
              have h2 := HG1.out.rel.len
              rw [HG2.out.eq, List.length_append] at h2
              have := HLM1.out
              omega)
            have HAL := Lib.hid (show A1.length + A2.length ≤ 1048576 by
              have h2 := HI.out.rel.len
              have h3 := HG1.out.rel.len
              rw [HG1.out.eq, HG2.out.eq, List.length_append, List.length_append] at h2
              have := HLL.out
              omega)
            obtain ⟨a3, c3, hz, hsh⟩ := hgr.sl.shape
            subst hz
            clear hsh
            have HG3 := Lib.hid hgr
            have HP3 := Lib.hid (HP2.out.symm.left hgr.ck hgr.gw).symm
            have HS2 := Lib.hid (sl_keepGW HS1.out HP2.out.cb hgr.gw (by decide) (by decide))
            have HT2 := Lib.hid (sl_keepGW HG2.out.sl HP2.out.cb hgr.gw (by decide) (by decide))
            clear hgr hh
            have hyy : (FloatKind.f64.format.order (plV y) y == some .eq) = true := by
              have h0 := of_decide_eq_true HLT.out.1
              have hle := plB_le HYL.out HLT.out.1
              have := ford_eq (rk_le hle.1).2 h0.1
              show (ford (plV y) y == some .eq) = true
              rw [this, (rk_le hle.1).1]
              refine decide_eq_true ?_
              rw [hle.2]
              rcases rk_cases y with ⟨_, e⟩ | ⟨_, e⟩ <;> rw [e] at h0 ⊢
              have := h0.2
              omega
            have HYY := Lib.hid hyy
            clear hyy
            go_wp2_with (at_builtin; refine wpList_append_slsW (by rfl) (.tmp 101) (.tmp 102) 34 rfl 3 j3 _ 1 8 Try.underlying34 si sz0 sz1 sz2 rfl (by decide) rfl HS2.out rfl HT2.out (by intro u hu; obtain ⟨t, _, rfl⟩ := List.mem_map.1 hu; rfl) (by have := HAL.out; unfold maxLen; omega) (by have := HAL.out; omega) ?_)
            intro b2 w8 hS hg hat
            rw [HA.out.1, HA.out.2] at hS
            obtain ⟨ba, bc, hb2, hsh⟩ := hS.shape
            subst hb2
            clear hsh
            have HS8 := Lib.hid hS
            have HZ8 := Lib.hid (HG3.out.sl.keep (w' := w8) fun g hg3 => hg.block g (HG3.out.sl.lt g hg3) (fun e => by
              have h1 := HG3.out.fresh g hg3
              obtain ⟨cur, hb⟩ := sl_ty HS1.out (show _ = some g from e.symm)
              have := hb.lt
              omega))
            have HP8 := Lib.hid (HP3.out.keepT (w3 := w8) (fun g t cur hb ht => hg.block g hb.lt (fun e => by
              obtain ⟨cur2, hb2⟩ := sl_ty HS2.out (show _ = some g from e.symm)
              refine Blk.ne_ hb hb2 ?_ rfl
              rcases ht with rfl | rfl <;> decide)) (HP3.out.only.grown hg fun g hg1 => .inr (by
                have h1 := HG1.out.fresh g hg1
                have := HI.out.pp.only.size
                omega)))
            clear hS hg hat
            have HQ := Lib.hid (ids13 w8 HS8.out HZ8.out (by rw [← HA.out.1]; exact HAL.out))
            go_wp2_with fail
            refine HQ.out.mono ?_
            clear HQ
            rintro e w9 ⟨rfl, ho⟩
            have HP9 := Lib.hid (HP8.out.only0 ho)
            clear ho
            have HQ := Lib.hid (now_ck HP9.out.ca)
            go_wp2_with fail
            refine HQ.out.mono ?_
            clear HQ
            rintro e w10 ⟨rfl, rfl⟩
            have hyy := HYY.out
            have HQ := Lib.hid (timers15 HP9.out.ca (sort_all (by have := HM2.out; omega)) HM2.out)
            go_wp2_with fail
            refine HQ.out.mono ?_
            clear HQ
            rintro e w11 ⟨v1, d1, rfl, hs1, hs2, hs3, hs4, ho⟩
            obtain ⟨b1, f1, rfl, hsh⟩ := hs1.shape
            have HP11 := Lib.hid (HP9.out.only0 ho)
            clear hs1 hs2 hs3 hs4 ho hsh hyy
            have HQ := Lib.hid (timers15 HP11.out.cb (sort_all (by rw [HML.out]; have := HM2.out; omega)) (by rw [HML.out]; exact HM2.out))
            go_wp2_with fail
            refine HQ.out.mono ?_
            clear HQ
            rintro e w12 ⟨v1, d1, rfl, hs1, hs2, hs3, hs4, ho⟩
            obtain ⟨b1, f1, rfl, hsh⟩ := hs1.shape
            have HO12 := Lib.hid (HP11.out.only.trans ho)
            have hml := HML.out
            clear hs1 hs2 hs3 hs4 ho hsh
            rw [hml]
            go_wp2
            exact bodyPost_ret (results_tmp rfl _ _ _) rfl ⟨rfl, HO12.out⟩
        · have HLT := Lib.hid (later HXL.out HYL.out HPX.out (.inl hyg))
          rcases hcs2 with h5 | ⟨h5, h6⟩
          ·
            have HQ := Lib.hid (inf11 wr y HYL.out)
            by_cases hyi : y = 9218868437227405312
            · rw [decide_eq_true hyi] at HQ
              clear hyi
              go_wp2_with fail
              refine HQ.out.mono ?_
              clear HQ
              rintro e w4 ⟨rfl, rfl⟩
              go_wp2
              exact bodyPost_ret (results_tmp rfl _ _ _) rfl ⟨rfl, HI.out.pp.only⟩
            rw [decide_eq_false hyi] at HQ
            have HYI := Lib.hid (show plV y ≠ 9218868437227405312 from fun e => hyi (by
              have h1 := (plB_le HYL.out HLT.out.1).2
              rw [e] at h1
              have h2 := HYL.out
              have h3 := (of_decide_eq_true HLT.out.1).2
              rcases rk_cases y with ⟨h4, h5⟩ | ⟨h4, h5⟩ <;> rw [h5] at h3 <;> omega))
            clear hyi
            go_wp2_with fail
            refine HQ.out.mono ?_
            clear HQ
            rintro e w4 ⟨rfl, rfl⟩
            clear hyg hye h5
            have HXH := Lib.hid (show plV x < 9218868437227405312 by have := HLT.out.2; have := (plB_le HYL.out HLT.out.1).1; have := HYI.out; omega)
            have HLL := Lib.hid (show l.length ≤ 1048576 by rw [HI.out.len]; have := HN2.out; omega)
            have HQ := Lib.hid (go12 w4 (d := x) HI.out.pp.ca HI.out.rel (by decide) HXL.out HLL.out)
            go_wp2_with fail
            refine HQ.out.mono ?_
            clear HQ
            intro e w5 hp
            unfold GoPost at hp
            rw [if_pos ⟨HPX.out, Nat.zero_le _, Nat.ne_of_lt HXH.out⟩] at hp
            obtain ⟨A1, B1, m1, s1, z1, rfl, hgr, hh⟩ := hp
            obtain ⟨a1, c1, hz, hsh⟩ := hgr.sl.shape
            subst hz
            clear hsh
            have HG1 := Lib.hid hgr
            have HP1 := Lib.hid (HI.out.pp.left hgr.ck hgr.gw)
            have HLM1 := Lib.hid (show m1.length ≤ 1048576 by
              have h1 := hgr.rel.len
              have h2 := HI.out.rel.len
              rw [hgr.eq, List.length_append] at h2
              have := HLL.out
              omega)
            clear hgr hh
            have HQ := Lib.hid (go12 w5 (d := y) HP1.out.ca HG1.out.rel HXH.out HYL.out HLM1.out)
            go_wp2_with fail
            refine HQ.out.mono ?_
            clear HQ
            intro e w6 hp
            unfold GoPost at hp
            rw [if_pos ⟨HLT.out.1, HLT.out.2, HYI.out⟩] at hp
            obtain ⟨A2, B2, m2, s2, z2, rfl, hgr, hh⟩ := hp
            obtain ⟨a2, c2, hz, hsh⟩ := hgr.sl.shape
            subst hz
            clear hsh
            have HG2 := Lib.hid hgr
            have HH2 := Lib.hid hh
            have HP2 := Lib.hid (HP1.out.left hgr.ck hgr.gw)
            have HS1 := Lib.hid (sl_keepGW HG1.out.sl HP1.out.ca hgr.gw (by decide) (by decide))
            clear hgr hh
            have HQ := Lib.hid (go12 w6 (d := y) HP2.out.cb HI.out.rel (by decide) HYL.out HLL.out)
            go_wp2_with fail
            refine HQ.out.mono ?_
            clear HQ
            intro e w7 hp
            unfold GoPost at hp
            rw [if_pos ⟨HLT.out.1, Nat.zero_le _, HYI.out⟩] at hp
            obtain ⟨A3, B3, m3, s3, z3, rfl, hgr, hh⟩ := hp
            have hab : A1 ++ A2 = A3 ∧ B2 = B3 := gone_uniq (t := plV y) (by rw [List.append_assoc, ← HG2.out.eq, ← HG1.out.eq, ← hgr.eq]) (fun x hx => by
              rcases List.mem_append.1 hx with hx | hx
              · have := HG1.out.le x hx
                have := HLT.out.2
                omega
              · exact HG2.out.le x hx) HH2.out hgr.le hh
            obtain ⟨hA, hB⟩ := hab
            subst hB
            have HA := Lib.hid (show A1.length + A2.length = A3.length ∧ idc A1 ++ idc A2 = idc A3 by rw [← hA, List.length_append, idc_append]; exact ⟨rfl, rfl⟩)
            clear hA
            have HML := Lib.hid (show m3.length = m2.length by rw [hgr.rel.len, HG2.out.rel.len])
            have HM2 := Lib.hid (show m2.length ≤ 1048576 by
              have h1 := HG2.out.rel.len
              have h2 := HG1.out.rel.len
              rw [HG2.out.eq, List.length_append] at h2
              have := HLM1.out
              omega)
            have HAL := Lib.hid (show A1.length + A2.length ≤ 1048576 by
              have h2 := HI.out.rel.len
              have h3 := HG1.out.rel.len
              rw [HG1.out.eq, HG2.out.eq, List.length_append, List.length_append] at h2
              have := HLL.out
              omega)
            obtain ⟨a3, c3, hz, hsh⟩ := hgr.sl.shape
            subst hz
            clear hsh
            have HG3 := Lib.hid hgr
            have HP3 := Lib.hid (HP2.out.symm.left hgr.ck hgr.gw).symm
            have HS2 := Lib.hid (sl_keepGW HS1.out HP2.out.cb hgr.gw (by decide) (by decide))
            have HT2 := Lib.hid (sl_keepGW HG2.out.sl HP2.out.cb hgr.gw (by decide) (by decide))
            clear hgr hh
            have hyy : (FloatKind.f64.format.order (plV y) y == some .eq) = true := by
              have h0 := of_decide_eq_true HLT.out.1
              have hle := plB_le HYL.out HLT.out.1
              have := ford_eq (rk_le hle.1).2 h0.1
              show (ford (plV y) y == some .eq) = true
              rw [this, (rk_le hle.1).1]
              refine decide_eq_true ?_
              rw [hle.2]
              rcases rk_cases y with ⟨_, e⟩ | ⟨_, e⟩ <;> rw [e] at h0 ⊢
              have := h0.2
              omega
            have HYY := Lib.hid hyy
            clear hyy
            go_wp2_with (at_builtin; refine wpList_append_slsW (by rfl) (.tmp 101) (.tmp 102) 34 rfl 3 j3 _ 1 8 Try.underlying34 si sz0 sz1 sz2 rfl (by decide) rfl HS2.out rfl HT2.out (by intro u hu; obtain ⟨t, _, rfl⟩ := List.mem_map.1 hu; rfl) (by have := HAL.out; unfold maxLen; omega) (by have := HAL.out; omega) ?_)
            intro b2 w8 hS hg hat
            rw [HA.out.1, HA.out.2] at hS
            obtain ⟨ba, bc, hb2, hsh⟩ := hS.shape
            subst hb2
            clear hsh
            have HS8 := Lib.hid hS
            have HZ8 := Lib.hid (HG3.out.sl.keep (w' := w8) fun g hg3 => hg.block g (HG3.out.sl.lt g hg3) (fun e => by
              have h1 := HG3.out.fresh g hg3
              obtain ⟨cur, hb⟩ := sl_ty HS1.out (show _ = some g from e.symm)
              have := hb.lt
              omega))
            have HP8 := Lib.hid (HP3.out.keepT (w3 := w8) (fun g t cur hb ht => hg.block g hb.lt (fun e => by
              obtain ⟨cur2, hb2⟩ := sl_ty HS2.out (show _ = some g from e.symm)
              refine Blk.ne_ hb hb2 ?_ rfl
              rcases ht with rfl | rfl <;> decide)) (HP3.out.only.grown hg fun g hg1 => .inr (by
                have h1 := HG1.out.fresh g hg1
                have := HI.out.pp.only.size
                omega)))
            clear hS hg hat
            have HQ := Lib.hid (ids13 w8 HS8.out HZ8.out (by rw [← HA.out.1]; exact HAL.out))
            go_wp2_with fail
            refine HQ.out.mono ?_
            clear HQ
            rintro e w9 ⟨rfl, ho⟩
            have HP9 := Lib.hid (HP8.out.only0 ho)
            clear ho
            have HQ := Lib.hid (now_ck HP9.out.ca)
            go_wp2_with fail
            refine HQ.out.mono ?_
            clear HQ
            rintro e w10 ⟨rfl, rfl⟩
            have hyy := HYY.out
            have HQ := Lib.hid (timers15 HP9.out.ca (sort_all (by have := HM2.out; omega)) HM2.out)
            go_wp2_with fail
            refine HQ.out.mono ?_
            clear HQ
            rintro e w11 ⟨v1, d1, rfl, hs1, hs2, hs3, hs4, ho⟩
            obtain ⟨b1, f1, rfl, hsh⟩ := hs1.shape
            have HP11 := Lib.hid (HP9.out.only0 ho)
            clear hs1 hs2 hs3 hs4 ho hsh hyy
            have HQ := Lib.hid (timers15 HP11.out.cb (sort_all (by rw [HML.out]; have := HM2.out; omega)) (by rw [HML.out]; exact HM2.out))
            go_wp2_with fail
            refine HQ.out.mono ?_
            clear HQ
            rintro e w12 ⟨v1, d1, rfl, hs1, hs2, hs3, hs4, ho⟩
            obtain ⟨b1, f1, rfl, hsh⟩ := hs1.shape
            have HO12 := Lib.hid (HP11.out.only.trans ho)
            have hml := HML.out
            clear hs1 hs2 hs3 hs4 ho hsh
            rw [hml]
            go_wp2
            exact bodyPost_ret (results_tmp rfl _ _ _) rfl ⟨rfl, HO12.out⟩
          ·
            have HQ := Lib.hid (inf11 wr y HYL.out)
            by_cases hyi : y = 9218868437227405312
            · rw [decide_eq_true hyi] at HQ
              clear hyi
              go_wp2_with fail
              refine HQ.out.mono ?_
              clear HQ
              rintro e w4 ⟨rfl, rfl⟩
              go_wp2
              exact bodyPost_ret (results_tmp rfl _ _ _) rfl ⟨rfl, HI.out.pp.only⟩
            rw [decide_eq_false hyi] at HQ
            have HYI := Lib.hid (show plV y ≠ 9218868437227405312 from fun e => hyi (by
              have h1 := (plB_le HYL.out HLT.out.1).2
              rw [e] at h1
              have h2 := HYL.out
              have h3 := (of_decide_eq_true HLT.out.1).2
              rcases rk_cases y with ⟨h4, h5⟩ | ⟨h4, h5⟩ <;> rw [h5] at h3 <;> omega))
            clear hyi
            go_wp2_with fail
            refine HQ.out.mono ?_
            clear HQ
            rintro e w4 ⟨rfl, rfl⟩
            clear hyg hye h5
            have HXH := Lib.hid (show plV x < 9218868437227405312 by have := HLT.out.2; have := (plB_le HYL.out HLT.out.1).1; have := HYI.out; omega)
            have HLL := Lib.hid (show l.length ≤ 1048576 by rw [HI.out.len]; have := HN2.out; omega)
            have HQ := Lib.hid (go12 w4 (d := x) HI.out.pp.ca HI.out.rel (by decide) HXL.out HLL.out)
            go_wp2_with fail
            refine HQ.out.mono ?_
            clear HQ
            intro e w5 hp
            unfold GoPost at hp
            rw [if_pos ⟨HPX.out, Nat.zero_le _, Nat.ne_of_lt HXH.out⟩] at hp
            obtain ⟨A1, B1, m1, s1, z1, rfl, hgr, hh⟩ := hp
            obtain ⟨a1, c1, hz, hsh⟩ := hgr.sl.shape
            subst hz
            clear hsh
            have HG1 := Lib.hid hgr
            have HP1 := Lib.hid (HI.out.pp.left hgr.ck hgr.gw)
            have HLM1 := Lib.hid (show m1.length ≤ 1048576 by
              have h1 := hgr.rel.len
              have h2 := HI.out.rel.len
              rw [hgr.eq, List.length_append] at h2
              have := HLL.out
              omega)
            clear hgr hh
            have HQ := Lib.hid (go12 w5 (d := y) HP1.out.ca HG1.out.rel HXH.out HYL.out HLM1.out)
            go_wp2_with fail
            refine HQ.out.mono ?_
            clear HQ
            intro e w6 hp
            unfold GoPost at hp
            rw [if_pos ⟨HLT.out.1, HLT.out.2, HYI.out⟩] at hp
            obtain ⟨A2, B2, m2, s2, z2, rfl, hgr, hh⟩ := hp
            obtain ⟨a2, c2, hz, hsh⟩ := hgr.sl.shape
            subst hz
            clear hsh
            have HG2 := Lib.hid hgr
            have HH2 := Lib.hid hh
            have HP2 := Lib.hid (HP1.out.left hgr.ck hgr.gw)
            have HS1 := Lib.hid (sl_keepGW HG1.out.sl HP1.out.ca hgr.gw (by decide) (by decide))
            clear hgr hh
            have HQ := Lib.hid (go12 w6 (d := y) HP2.out.cb HI.out.rel (by decide) HYL.out HLL.out)
            go_wp2_with fail
            refine HQ.out.mono ?_
            clear HQ
            intro e w7 hp
            unfold GoPost at hp
            rw [if_pos ⟨HLT.out.1, Nat.zero_le _, HYI.out⟩] at hp
            obtain ⟨A3, B3, m3, s3, z3, rfl, hgr, hh⟩ := hp
            have hab : A1 ++ A2 = A3 ∧ B2 = B3 := gone_uniq (t := plV y) (by rw [List.append_assoc, ← HG2.out.eq, ← HG1.out.eq, ← hgr.eq]) (fun x hx => by
              rcases List.mem_append.1 hx with hx | hx
              · have := HG1.out.le x hx
                have := HLT.out.2
                omega
              · exact HG2.out.le x hx) HH2.out hgr.le hh
            obtain ⟨hA, hB⟩ := hab
            subst hB
            have HA := Lib.hid (show A1.length + A2.length = A3.length ∧ idc A1 ++ idc A2 = idc A3 by rw [← hA, List.length_append, idc_append]; exact ⟨rfl, rfl⟩)
            clear hA
            have HML := Lib.hid (show m3.length = m2.length by rw [hgr.rel.len, HG2.out.rel.len])
            have HM2 := Lib.hid (show m2.length ≤ 1048576 by
              have h1 := HG2.out.rel.len
              have h2 := HG1.out.rel.len
              rw [HG2.out.eq, List.length_append] at h2
              have := HLM1.out
              omega)
            have HAL := Lib.hid (show A1.length + A2.length ≤ 1048576 by
              have h2 := HI.out.rel.len
              have h3 := HG1.out.rel.len
              rw [HG1.out.eq, HG2.out.eq, List.length_append, List.length_append] at h2
              have := HLL.out
              omega)
            obtain ⟨a3, c3, hz, hsh⟩ := hgr.sl.shape
            subst hz
            clear hsh
            have HG3 := Lib.hid hgr
            have HP3 := Lib.hid (HP2.out.symm.left hgr.ck hgr.gw).symm
            have HS2 := Lib.hid (sl_keepGW HS1.out HP2.out.cb hgr.gw (by decide) (by decide))
            have HT2 := Lib.hid (sl_keepGW HG2.out.sl HP2.out.cb hgr.gw (by decide) (by decide))
            clear hgr hh
            have hyy : (FloatKind.f64.format.order (plV y) y == some .eq) = true := by
              have h0 := of_decide_eq_true HLT.out.1
              have hle := plB_le HYL.out HLT.out.1
              have := ford_eq (rk_le hle.1).2 h0.1
              show (ford (plV y) y == some .eq) = true
              rw [this, (rk_le hle.1).1]
              refine decide_eq_true ?_
              rw [hle.2]
              rcases rk_cases y with ⟨_, e⟩ | ⟨_, e⟩ <;> rw [e] at h0 ⊢
              have := h0.2
              omega
            have HYY := Lib.hid hyy
            clear hyy
            go_wp2_with (at_builtin; refine wpList_append_slsW (by rfl) (.tmp 101) (.tmp 102) 34 rfl 3 j3 _ 1 8 Try.underlying34 si sz0 sz1 sz2 rfl (by decide) rfl HS2.out rfl HT2.out (by intro u hu; obtain ⟨t, _, rfl⟩ := List.mem_map.1 hu; rfl) (by have := HAL.out; unfold maxLen; omega) (by have := HAL.out; omega) ?_)
            intro b2 w8 hS hg hat
            rw [HA.out.1, HA.out.2] at hS
            obtain ⟨ba, bc, hb2, hsh⟩ := hS.shape
            subst hb2
            clear hsh
            have HS8 := Lib.hid hS
            have HZ8 := Lib.hid (HG3.out.sl.keep (w' := w8) fun g hg3 => hg.block g (HG3.out.sl.lt g hg3) (fun e => by
              have h1 := HG3.out.fresh g hg3
              obtain ⟨cur, hb⟩ := sl_ty HS1.out (show _ = some g from e.symm)
              have := hb.lt
              omega))
            have HP8 := Lib.hid (HP3.out.keepT (w3 := w8) (fun g t cur hb ht => hg.block g hb.lt (fun e => by
              obtain ⟨cur2, hb2⟩ := sl_ty HS2.out (show _ = some g from e.symm)
              refine Blk.ne_ hb hb2 ?_ rfl
              rcases ht with rfl | rfl <;> decide)) (HP3.out.only.grown hg fun g hg1 => .inr (by
                have h1 := HG1.out.fresh g hg1
                have := HI.out.pp.only.size
                omega)))
            clear hS hg hat
            have HQ := Lib.hid (ids13 w8 HS8.out HZ8.out (by rw [← HA.out.1]; exact HAL.out))
            go_wp2_with fail
            refine HQ.out.mono ?_
            clear HQ
            rintro e w9 ⟨rfl, ho⟩
            have HP9 := Lib.hid (HP8.out.only0 ho)
            clear ho
            have HQ := Lib.hid (now_ck HP9.out.ca)
            go_wp2_with fail
            refine HQ.out.mono ?_
            clear HQ
            rintro e w10 ⟨rfl, rfl⟩
            have hyy := HYY.out
            have HQ := Lib.hid (timers15 HP9.out.ca (sort_all (by have := HM2.out; omega)) HM2.out)
            go_wp2_with fail
            refine HQ.out.mono ?_
            clear HQ
            rintro e w11 ⟨v1, d1, rfl, hs1, hs2, hs3, hs4, ho⟩
            obtain ⟨b1, f1, rfl, hsh⟩ := hs1.shape
            have HP11 := Lib.hid (HP9.out.only0 ho)
            clear hs1 hs2 hs3 hs4 ho hsh hyy
            have HQ := Lib.hid (timers15 HP11.out.cb (sort_all (by rw [HML.out]; have := HM2.out; omega)) (by rw [HML.out]; exact HM2.out))
            go_wp2_with fail
            refine HQ.out.mono ?_
            clear HQ
            rintro e w12 ⟨v1, d1, rfl, hs1, hs2, hs3, hs4, ho⟩
            obtain ⟨b1, f1, rfl, hsh⟩ := hs1.shape
            have HO12 := Lib.hid (HP11.out.only.trans ho)
            have hml := HML.out
            clear hs1 hs2 hs3 hs4 ho hsh
            rw [hml]
            go_wp2
            exact bodyPost_ret (results_tmp rfl _ _ _) rfl ⟨rfl, HO12.out⟩
        · have HLT := Lib.hid (later HXL.out HYL.out HPX.out (.inl hyg))
          rcases hcs2 with h5 | ⟨h5, h6⟩
          ·
            have HQ := Lib.hid (inf11 wr y HYL.out)
            by_cases hyi : y = 9218868437227405312
            · rw [decide_eq_true hyi] at HQ
              clear hyi
              go_wp2_with fail
              refine HQ.out.mono ?_
              clear HQ
              rintro e w4 ⟨rfl, rfl⟩
              go_wp2
              exact bodyPost_ret (results_tmp rfl _ _ _) rfl ⟨rfl, HI.out.pp.only⟩
            rw [decide_eq_false hyi] at HQ
            have HYI := Lib.hid (show plV y ≠ 9218868437227405312 from fun e => hyi (by
              have h1 := (plB_le HYL.out HLT.out.1).2
              rw [e] at h1
              have h2 := HYL.out
              have h3 := (of_decide_eq_true HLT.out.1).2
              rcases rk_cases y with ⟨h4, h5⟩ | ⟨h4, h5⟩ <;> rw [h5] at h3 <;> omega))
            clear hyi
            go_wp2_with fail
            refine HQ.out.mono ?_
            clear HQ
            rintro e w4 ⟨rfl, rfl⟩
            clear hyg hye h5
            have HXH := Lib.hid (show plV x < 9218868437227405312 by have := HLT.out.2; have := (plB_le HYL.out HLT.out.1).1; have := HYI.out; omega)
            have HLL := Lib.hid (show l.length ≤ 1048576 by rw [HI.out.len]; have := HN2.out; omega)
            have HQ := Lib.hid (go12 w4 (d := x) HI.out.pp.ca HI.out.rel (by decide) HXL.out HLL.out)
            go_wp2_with fail
            refine HQ.out.mono ?_
            clear HQ
            intro e w5 hp
            unfold GoPost at hp
            rw [if_pos ⟨HPX.out, Nat.zero_le _, Nat.ne_of_lt HXH.out⟩] at hp
            obtain ⟨A1, B1, m1, s1, z1, rfl, hgr, hh⟩ := hp
            obtain ⟨a1, c1, hz, hsh⟩ := hgr.sl.shape
            subst hz
            clear hsh
            have HG1 := Lib.hid hgr
            have HP1 := Lib.hid (HI.out.pp.left hgr.ck hgr.gw)
            have HLM1 := Lib.hid (show m1.length ≤ 1048576 by
              have h1 := hgr.rel.len
              have h2 := HI.out.rel.len
              rw [hgr.eq, List.length_append] at h2
              have := HLL.out
              omega)
            clear hgr hh
            have HQ := Lib.hid (go12 w5 (d := y) HP1.out.ca HG1.out.rel HXH.out HYL.out HLM1.out)
            go_wp2_with fail
            refine HQ.out.mono ?_
            clear HQ
            intro e w6 hp
            unfold GoPost at hp
            rw [if_pos ⟨HLT.out.1, HLT.out.2, HYI.out⟩] at hp
            obtain ⟨A2, B2, m2, s2, z2, rfl, hgr, hh⟩ := hp
            obtain ⟨a2, c2, hz, hsh⟩ := hgr.sl.shape
            subst hz
            clear hsh
            have HG2 := Lib.hid hgr
            have HH2 := Lib.hid hh
            have HP2 := Lib.hid (HP1.out.left hgr.ck hgr.gw)
            have HS1 := Lib.hid (sl_keepGW HG1.out.sl HP1.out.ca hgr.gw (by decide) (by decide))
            clear hgr hh
            have HQ := Lib.hid (go12 w6 (d := y) HP2.out.cb HI.out.rel (by decide) HYL.out HLL.out)
            go_wp2_with fail
            refine HQ.out.mono ?_
            clear HQ
            intro e w7 hp
            unfold GoPost at hp
            rw [if_pos ⟨HLT.out.1, Nat.zero_le _, HYI.out⟩] at hp
            obtain ⟨A3, B3, m3, s3, z3, rfl, hgr, hh⟩ := hp
            have hab : A1 ++ A2 = A3 ∧ B2 = B3 := gone_uniq (t := plV y) (by rw [List.append_assoc, ← HG2.out.eq, ← HG1.out.eq, ← hgr.eq]) (fun x hx => by
              rcases List.mem_append.1 hx with hx | hx
              · have := HG1.out.le x hx
                have := HLT.out.2
                omega
              · exact HG2.out.le x hx) HH2.out hgr.le hh
            obtain ⟨hA, hB⟩ := hab
            subst hB
            have HA := Lib.hid (show A1.length + A2.length = A3.length ∧ idc A1 ++ idc A2 = idc A3 by rw [← hA, List.length_append, idc_append]; exact ⟨rfl, rfl⟩)
            clear hA
            have HML := Lib.hid (show m3.length = m2.length by rw [hgr.rel.len, HG2.out.rel.len])
            have HM2 := Lib.hid (show m2.length ≤ 1048576 by
              have h1 := HG2.out.rel.len
              have h2 := HG1.out.rel.len
              rw [HG2.out.eq, List.length_append] at h2
              have := HLM1.out
              omega)
            have HAL := Lib.hid (show A1.length + A2.length ≤ 1048576 by
              have h2 := HI.out.rel.len
              have h3 := HG1.out.rel.len
              rw [HG1.out.eq, HG2.out.eq, List.length_append, List.length_append] at h2
              have := HLL.out
              omega)
            obtain ⟨a3, c3, hz, hsh⟩ := hgr.sl.shape
            subst hz
            clear hsh
            have HG3 := Lib.hid hgr
            have HP3 := Lib.hid (HP2.out.symm.left hgr.ck hgr.gw).symm
            have HS2 := Lib.hid (sl_keepGW HS1.out HP2.out.cb hgr.gw (by decide) (by decide))
            have HT2 := Lib.hid (sl_keepGW HG2.out.sl HP2.out.cb hgr.gw (by decide) (by decide))
            clear hgr hh
            have hyy : (FloatKind.f64.format.order (plV y) y == some .eq) = true := by
              have h0 := of_decide_eq_true HLT.out.1
              have hle := plB_le HYL.out HLT.out.1
              have := ford_eq (rk_le hle.1).2 h0.1
              show (ford (plV y) y == some .eq) = true
              rw [this, (rk_le hle.1).1]
              refine decide_eq_true ?_
              rw [hle.2]
              rcases rk_cases y with ⟨_, e⟩ | ⟨_, e⟩ <;> rw [e] at h0 ⊢
              have := h0.2
              omega
            have HYY := Lib.hid hyy
            clear hyy
            go_wp2_with (at_builtin; refine wpList_append_slsW (by rfl) (.tmp 101) (.tmp 102) 34 rfl 3 j3 _ 1 8 Try.underlying34 si sz0 sz1 sz2 rfl (by decide) rfl HS2.out rfl HT2.out (by intro u hu; obtain ⟨t, _, rfl⟩ := List.mem_map.1 hu; rfl) (by have := HAL.out; unfold maxLen; omega) (by have := HAL.out; omega) ?_)
            intro b2 w8 hS hg hat
            rw [HA.out.1, HA.out.2] at hS
            obtain ⟨ba, bc, hb2, hsh⟩ := hS.shape
            subst hb2
            clear hsh
            have HS8 := Lib.hid hS
            have HZ8 := Lib.hid (HG3.out.sl.keep (w' := w8) fun g hg3 => hg.block g (HG3.out.sl.lt g hg3) (fun e => by
              have h1 := HG3.out.fresh g hg3
              obtain ⟨cur, hb⟩ := sl_ty HS1.out (show _ = some g from e.symm)
              have := hb.lt
              omega))
            have HP8 := Lib.hid (HP3.out.keepT (w3 := w8) (fun g t cur hb ht => hg.block g hb.lt (fun e => by
              obtain ⟨cur2, hb2⟩ := sl_ty HS2.out (show _ = some g from e.symm)
              refine Blk.ne_ hb hb2 ?_ rfl
              rcases ht with rfl | rfl <;> decide)) (HP3.out.only.grown hg fun g hg1 => .inr (by
                have h1 := HG1.out.fresh g hg1
                have := HI.out.pp.only.size
                omega)))
            clear hS hg hat
            have HQ := Lib.hid (ids13 w8 HS8.out HZ8.out (by rw [← HA.out.1]; exact HAL.out))
            go_wp2_with fail
            refine HQ.out.mono ?_
            clear HQ
            rintro e w9 ⟨rfl, ho⟩
            have HP9 := Lib.hid (HP8.out.only0 ho)
            clear ho
            have HQ := Lib.hid (now_ck HP9.out.ca)
            go_wp2_with fail
            refine HQ.out.mono ?_
            clear HQ
            rintro e w10 ⟨rfl, rfl⟩
            have hyy := HYY.out
            have HQ := Lib.hid (timers15 HP9.out.ca (sort_all (by have := HM2.out; omega)) HM2.out)
            go_wp2_with fail
            refine HQ.out.mono ?_
            clear HQ
            rintro e w11 ⟨v1, d1, rfl, hs1, hs2, hs3, hs4, ho⟩
            obtain ⟨b1, f1, rfl, hsh⟩ := hs1.shape
            have HP11 := Lib.hid (HP9.out.only0 ho)
            clear hs1 hs2 hs3 hs4 ho hsh hyy
            have HQ := Lib.hid (timers15 HP11.out.cb (sort_all (by rw [HML.out]; have := HM2.out; omega)) (by rw [HML.out]; exact HM2.out))
            go_wp2_with fail
            refine HQ.out.mono ?_
            clear HQ
            rintro e w12 ⟨v1, d1, rfl, hs1, hs2, hs3, hs4, ho⟩
            obtain ⟨b1, f1, rfl, hsh⟩ := hs1.shape
            have HO12 := Lib.hid (HP11.out.only.trans ho)
            have hml := HML.out
            clear hs1 hs2 hs3 hs4 ho hsh
            rw [hml]
            go_wp2
            exact bodyPost_ret (results_tmp rfl _ _ _) rfl ⟨rfl, HO12.out⟩
          ·
            have HQ := Lib.hid (inf11 wr y HYL.out)
            by_cases hyi : y = 9218868437227405312
            · rw [decide_eq_true hyi] at HQ
              clear hyi
              go_wp2_with fail
              refine HQ.out.mono ?_
              clear HQ
              rintro e w4 ⟨rfl, rfl⟩
              go_wp2
              exact bodyPost_ret (results_tmp rfl _ _ _) rfl ⟨rfl, HI.out.pp.only⟩
            rw [decide_eq_false hyi] at HQ
            have HYI := Lib.hid (show plV y ≠ 9218868437227405312 from fun e => hyi (by
              have h1 := (plB_le HYL.out HLT.out.1).2
              rw [e] at h1
              have h2 := HYL.out
              have h3 := (of_decide_eq_true HLT.out.1).2
              rcases rk_cases y with ⟨h4, h5⟩ | ⟨h4, h5⟩ <;> rw [h5] at h3 <;> omega))
            clear hyi
            go_wp2_with fail
            refine HQ.out.mono ?_
            clear HQ
            rintro e w4 ⟨rfl, rfl⟩
            clear hyg hye h5
            have HXH := Lib.hid (show plV x < 9218868437227405312 by have := HLT.out.2; have := (plB_le HYL.out HLT.out.1).1; have := HYI.out; omega)
            have HLL := Lib.hid (show l.length ≤ 1048576 by rw [HI.out.len]; have := HN2.out; omega)
            have HQ := Lib.hid (go12 w4 (d := x) HI.out.pp.ca HI.out.rel (by decide) HXL.out HLL.out)
            go_wp2_with fail
            refine HQ.out.mono ?_
            clear HQ
            intro e w5 hp
            unfold GoPost at hp
            rw [if_pos ⟨HPX.out, Nat.zero_le _, Nat.ne_of_lt HXH.out⟩] at hp
            obtain ⟨A1, B1, m1, s1, z1, rfl, hgr, hh⟩ := hp
            obtain ⟨a1, c1, hz, hsh⟩ := hgr.sl.shape
            subst hz
            clear hsh
            have HG1 := Lib.hid hgr
            have HP1 := Lib.hid (HI.out.pp.left hgr.ck hgr.gw)
            have HLM1 := Lib.hid (show m1.length ≤ 1048576 by
              have h1 := hgr.rel.len
              have h2 := HI.out.rel.len
              rw [hgr.eq, List.length_append] at h2
              have := HLL.out
              omega)
            clear hgr hh
            have HQ := Lib.hid (go12 w5 (d := y) HP1.out.ca HG1.out.rel HXH.out HYL.out HLM1.out)
            go_wp2_with fail
            refine HQ.out.mono ?_
            clear HQ
            intro e w6 hp
            unfold GoPost at hp
            rw [if_pos ⟨HLT.out.1, HLT.out.2, HYI.out⟩] at hp
            obtain ⟨A2, B2, m2, s2, z2, rfl, hgr, hh⟩ := hp
            obtain ⟨a2, c2, hz, hsh⟩ := hgr.sl.shape
            subst hz
            clear hsh
            have HG2 := Lib.hid hgr
            have HH2 := Lib.hid hh
            have HP2 := Lib.hid (HP1.out.left hgr.ck hgr.gw)
            have HS1 := Lib.hid (sl_keepGW HG1.out.sl HP1.out.ca hgr.gw (by decide) (by decide))
            clear hgr hh
            have HQ := Lib.hid (go12 w6 (d := y) HP2.out.cb HI.out.rel (by decide) HYL.out HLL.out)
            go_wp2_with fail
            refine HQ.out.mono ?_
            clear HQ
            intro e w7 hp
            unfold GoPost at hp
            rw [if_pos ⟨HLT.out.1, Nat.zero_le _, HYI.out⟩] at hp
            obtain ⟨A3, B3, m3, s3, z3, rfl, hgr, hh⟩ := hp
            have hab : A1 ++ A2 = A3 ∧ B2 = B3 := gone_uniq (t := plV y) (by rw [List.append_assoc, ← HG2.out.eq, ← HG1.out.eq, ← hgr.eq]) (fun x hx => by
              rcases List.mem_append.1 hx with hx | hx
              · have := HG1.out.le x hx
                have := HLT.out.2
                omega
              · exact HG2.out.le x hx) HH2.out hgr.le hh
            obtain ⟨hA, hB⟩ := hab
            subst hB
            have HA := Lib.hid (show A1.length + A2.length = A3.length ∧ idc A1 ++ idc A2 = idc A3 by rw [← hA, List.length_append, idc_append]; exact ⟨rfl, rfl⟩)
            clear hA
            have HML := Lib.hid (show m3.length = m2.length by rw [hgr.rel.len, HG2.out.rel.len])
            have HM2 := Lib.hid (show m2.length ≤ 1048576 by
              have h1 := HG2.out.rel.len
              have h2 := HG1.out.rel.len
              rw [HG2.out.eq, List.length_append] at h2
              have := HLM1.out
              omega)
            have HAL := Lib.hid (show A1.length + A2.length ≤ 1048576 by
              have h2 := HI.out.rel.len
              have h3 := HG1.out.rel.len
              rw [HG1.out.eq, HG2.out.eq, List.length_append, List.length_append] at h2
              have := HLL.out
              omega)
            obtain ⟨a3, c3, hz, hsh⟩ := hgr.sl.shape
            subst hz
            clear hsh
            have HG3 := Lib.hid hgr
            have HP3 := Lib.hid (HP2.out.symm.left hgr.ck hgr.gw).symm
            have HS2 := Lib.hid (sl_keepGW HS1.out HP2.out.cb hgr.gw (by decide) (by decide))
            have HT2 := Lib.hid (sl_keepGW HG2.out.sl HP2.out.cb hgr.gw (by decide) (by decide))
            clear hgr hh
            have hyy : (FloatKind.f64.format.order (plV y) y == some .eq) = true := by
              have h0 := of_decide_eq_true HLT.out.1
              have hle := plB_le HYL.out HLT.out.1
              have := ford_eq (rk_le hle.1).2 h0.1
              show (ford (plV y) y == some .eq) = true
              rw [this, (rk_le hle.1).1]
              refine decide_eq_true ?_
              rw [hle.2]
              rcases rk_cases y with ⟨_, e⟩ | ⟨_, e⟩ <;> rw [e] at h0 ⊢
              have := h0.2
              omega
            have HYY := Lib.hid hyy
            clear hyy
            go_wp2_with (at_builtin; refine wpList_append_slsW (by rfl) (.tmp 101) (.tmp 102) 34 rfl 3 j3 _ 1 8 Try.underlying34 si sz0 sz1 sz2 rfl (by decide) rfl HS2.out rfl HT2.out (by intro u hu; obtain ⟨t, _, rfl⟩ := List.mem_map.1 hu; rfl) (by have := HAL.out; unfold maxLen; omega) (by have := HAL.out; omega) ?_)
            intro b2 w8 hS hg hat
            rw [HA.out.1, HA.out.2] at hS
            obtain ⟨ba, bc, hb2, hsh⟩ := hS.shape
            subst hb2
            clear hsh
            have HS8 := Lib.hid hS
            have HZ8 := Lib.hid (HG3.out.sl.keep (w' := w8) fun g hg3 => hg.block g (HG3.out.sl.lt g hg3) (fun e => by
              have h1 := HG3.out.fresh g hg3
              obtain ⟨cur, hb⟩ := sl_ty HS1.out (show _ = some g from e.symm)
              have := hb.lt
              omega))
            have HP8 := Lib.hid (HP3.out.keepT (w3 := w8) (fun g t cur hb ht => hg.block g hb.lt (fun e => by
              obtain ⟨cur2, hb2⟩ := sl_ty HS2.out (show _ = some g from e.symm)
              refine Blk.ne_ hb hb2 ?_ rfl
              rcases ht with rfl | rfl <;> decide)) (HP3.out.only.grown hg fun g hg1 => .inr (by
                have h1 := HG1.out.fresh g hg1
                have := HI.out.pp.only.size
                omega)))
            clear hS hg hat
            have HQ := Lib.hid (ids13 w8 HS8.out HZ8.out (by rw [← HA.out.1]; exact HAL.out))
            go_wp2_with fail
            refine HQ.out.mono ?_
            clear HQ
            rintro e w9 ⟨rfl, ho⟩
            have HP9 := Lib.hid (HP8.out.only0 ho)
            clear ho
            have HQ := Lib.hid (now_ck HP9.out.ca)
            go_wp2_with fail
            refine HQ.out.mono ?_
            clear HQ
            rintro e w10 ⟨rfl, rfl⟩
            have hyy := HYY.out
            have HQ := Lib.hid (timers15 HP9.out.ca (sort_all (by have := HM2.out; omega)) HM2.out)
            go_wp2_with fail
            refine HQ.out.mono ?_
            clear HQ
            rintro e w11 ⟨v1, d1, rfl, hs1, hs2, hs3, hs4, ho⟩
            obtain ⟨b1, f1, rfl, hsh⟩ := hs1.shape
            have HP11 := Lib.hid (HP9.out.only0 ho)
            clear hs1 hs2 hs3 hs4 ho hsh hyy
            have HQ := Lib.hid (timers15 HP11.out.cb (sort_all (by rw [HML.out]; have := HM2.out; omega)) (by rw [HML.out]; exact HM2.out))
            go_wp2_with fail
            refine HQ.out.mono ?_
            clear HQ
            rintro e w12 ⟨v1, d1, rfl, hs1, hs2, hs3, hs4, ho⟩
            obtain ⟨b1, f1, rfl, hsh⟩ := hs1.shape
            have HO12 := Lib.hid (HP11.out.only.trans ho)
            have hml := HML.out
            clear hs1 hs2 hs3 hs4 ho hsh
            rw [hml]
            go_wp2
            exact bodyPost_ret (results_tmp rfl _ _ _) rfl ⟨rfl, HO12.out⟩
      ·
        cases hpx : plB x
        · have h0 : ¬ x % 9223372036854775808 = 0 := fun e => by rw [plB_zero e] at hpx; cases hpx
          have hg2 := plB_pos h0
          rw [hpx] at hg2
          have hz := pl_zero x
          rw [decide_eq_false h0] at hz
          have hg3 : (FloatKind.f64.format.order x 0 == some .gt) = false := hg2.symm
          clear hg2 h0 hpx e1
          go_wp2
          exact bodyPost_ret (results_tmp rfl _ _ _) rfl ⟨rfl, HI.out.pp.only⟩
        have HPX := Lib.hid hpx
        have hcs2 : ((FloatKind.f64.format.order x 0 == some .gt) = true) ∨ ((FloatKind.f64.format.order x 0 == some .gt) = false ∧ (FloatKind.f64.format.order x 0 == some .eq) = true) := by
          have hz := pl_zero x
          by_cases h0 : x % 9223372036854775808 = 0
          · rw [decide_eq_true h0] at hz
            cases hgg : (FloatKind.f64.format.order x 0 == some .gt)
            · exact .inr ⟨rfl, hz⟩
            · exact .inl rfl
          · have hg2 := plB_pos h0
            rw [hpx] at hg2
            exact .inl hg2.symm
        clear hpx e1
        cases hyg : (FloatKind.f64.format.order y x == some .gt) <;> cases hye : (FloatKind.f64.format.order y x == some .eq)
        · rcases hcs2 with h5 | ⟨h5, h6⟩
          ·
            go_wp2
            exact bodyPost_ret (results_tmp rfl _ _ _) rfl ⟨rfl, HI.out.pp.only⟩
          ·
            go_wp2
            exact bodyPost_ret (results_tmp rfl _ _ _) rfl ⟨rfl, HI.out.pp.only⟩
        · have HLT := Lib.hid (later HXL.out HYL.out HPX.out (.inr hye))
          rcases hcs2 with h5 | ⟨h5, h6⟩
          ·
            have HQ := Lib.hid (inf11 wr y HYL.out)
            by_cases hyi : y = 9218868437227405312
            · rw [decide_eq_true hyi] at HQ
              clear hyi
              go_wp2_with fail
              refine HQ.out.mono ?_
              clear HQ
              rintro e w4 ⟨rfl, rfl⟩
              go_wp2
              exact bodyPost_ret (results_tmp rfl _ _ _) rfl ⟨rfl, HI.out.pp.only⟩
            rw [decide_eq_false hyi] at HQ
            have HYI := Lib.hid (show plV y ≠ 9218868437227405312 from fun e => hyi (by
              have h1 := (plB_le HYL.out HLT.out.1).2
              rw [e] at h1
              have h2 := HYL.out
              have h3 := (of_decide_eq_true HLT.out.1).2
              rcases rk_cases y with ⟨h4, h5⟩ | ⟨h4, h5⟩ <;> rw [h5] at h3 <;> omega))
            clear hyi
            go_wp2_with fail
            refine HQ.out.mono ?_
            clear HQ
            rintro e w4 ⟨rfl, rfl⟩
            clear hyg hye h5
            have HXH := Lib.hid (show plV x < 9218868437227405312 by have := HLT.out.2; have := (plB_le HYL.out HLT.out.1).1; have := HYI.out; omega)
            have HLL := Lib.hid (show l.length ≤ 1048576 by rw [HI.out.len]; have := HN2.out; omega)
            have HQ := Lib.hid (go12 w4 (d := x) HI.out.pp.ca HI.out.rel (by decide) HXL.out HLL.out)
            go_wp2_with fail
            refine HQ.out.mono ?_
            clear HQ
            intro e w5 hp
            unfold GoPost at hp
            rw [if_pos ⟨HPX.out, Nat.zero_le _, Nat.ne_of_lt HXH.out⟩] at hp
            obtain ⟨A1, B1, m1, s1, z1, rfl, hgr, hh⟩ := hp
            obtain ⟨a1, c1, hz, hsh⟩ := hgr.sl.shape
            subst hz
            clear hsh
            have HG1 := Lib.hid hgr
            have HP1 := Lib.hid (HI.out.pp.left hgr.ck hgr.gw)
            have HLM1 := Lib.hid (show m1.length ≤ 1048576 by
              have h1 := hgr.rel.len
              have h2 := HI.out.rel.len
              rw [hgr.eq, List.length_append] at h2
              have := HLL.out
              omega)
            clear hgr hh
            have HQ := Lib.hid (go12 w5 (d := y) HP1.out.ca HG1.out.rel HXH.out HYL.out HLM1.out)
            go_wp2_with fail
            refine HQ.out.mono ?_
            clear HQ
            intro e w6 hp
            unfold GoPost at hp
            rw [if_pos ⟨HLT.out.1, HLT.out.2, HYI.out⟩] at hp
            obtain ⟨A2, B2, m2, s2, z2, rfl, hgr, hh⟩ := hp
            obtain ⟨a2, c2, hz, hsh⟩ := hgr.sl.shape
            subst hz
            clear hsh
            have HG2 := Lib.hid hgr
            have HH2 := Lib.hid hh
            have HP2 := Lib.hid (HP1.out.left hgr.ck hgr.gw)
            have HS1 := Lib.hid (sl_keepGW HG1.out.sl HP1.out.ca hgr.gw (by decide) (by decide))
            clear hgr hh
            have HQ := Lib.hid (go12 w6 (d := y) HP2.out.cb HI.out.rel (by decide) HYL.out HLL.out)
            go_wp2_with fail
            refine HQ.out.mono ?_
            clear HQ
            intro e w7 hp
            unfold GoPost at hp
            rw [if_pos ⟨HLT.out.1, Nat.zero_le _, HYI.out⟩] at hp
            obtain ⟨A3, B3, m3, s3, z3, rfl, hgr, hh⟩ := hp
            have hab : A1 ++ A2 = A3 ∧ B2 = B3 := gone_uniq (t := plV y) (by rw [List.append_assoc, ← HG2.out.eq, ← HG1.out.eq, ← hgr.eq]) (fun x hx => by
              rcases List.mem_append.1 hx with hx | hx
              · have := HG1.out.le x hx
                have := HLT.out.2
                omega
              · exact HG2.out.le x hx) HH2.out hgr.le hh
            obtain ⟨hA, hB⟩ := hab
            subst hB
            have HA := Lib.hid (show A1.length + A2.length = A3.length ∧ idc A1 ++ idc A2 = idc A3 by rw [← hA, List.length_append, idc_append]; exact ⟨rfl, rfl⟩)
            clear hA
            have HML := Lib.hid (show m3.length = m2.length by rw [hgr.rel.len, HG2.out.rel.len])
            have HM2 := Lib.hid (show m2.length ≤ 1048576 by
              have h1 := HG2.out.rel.len
              have h2 := HG1.out.rel.len
              rw [HG2.out.eq, List.length_append] at h2
              have := HLM1.out
              omega)
            have HAL := Lib.hid (show A1.length + A2.length ≤ 1048576 by
              have h2 := HI.out.rel.len
              have h3 := HG1.out.rel.len
              rw [HG1.out.eq, HG2.out.eq, List.length_append, List.length_append] at h2
              have := HLL.out
              omega)
            obtain ⟨a3, c3, hz, hsh⟩ := hgr.sl.shape
            subst hz
            clear hsh
            have HG3 := Lib.hid hgr
            have HP3 := Lib.hid (HP2.out.symm.left hgr.ck hgr.gw).symm
            have HS2 := Lib.hid (sl_keepGW HS1.out HP2.out.cb hgr.gw (by decide) (by decide))
            have HT2 := Lib.hid (sl_keepGW HG2.out.sl HP2.out.cb hgr.gw (by decide) (by decide))
            clear hgr hh
            have hyy : (FloatKind.f64.format.order (plV y) y == some .eq) = true := by
              have h0 := of_decide_eq_true HLT.out.1
              have hle := plB_le HYL.out HLT.out.1
              have := ford_eq (rk_le hle.1).2 h0.1
              show (ford (plV y) y == some .eq) = true
              rw [this, (rk_le hle.1).1]
              refine decide_eq_true ?_
              rw [hle.2]
              rcases rk_cases y with ⟨_, e⟩ | ⟨_, e⟩ <;> rw [e] at h0 ⊢
              have := h0.2
              omega
            have HYY := Lib.hid hyy
            clear hyy
            go_wp2_with (at_builtin; refine wpList_append_slsW (by rfl) (.tmp 101) (.tmp 102) 34 rfl 3 j3 _ 1 8 Try.underlying34 si sz0 sz1 sz2 rfl (by decide) rfl HS2.out rfl HT2.out (by intro u hu; obtain ⟨t, _, rfl⟩ := List.mem_map.1 hu; rfl) (by have := HAL.out; unfold maxLen; omega) (by have := HAL.out; omega) ?_)
            intro b2 w8 hS hg hat
            rw [HA.out.1, HA.out.2] at hS
            obtain ⟨ba, bc, hb2, hsh⟩ := hS.shape
            subst hb2
            clear hsh
            have HS8 := Lib.hid hS
            have HZ8 := Lib.hid (HG3.out.sl.keep (w' := w8) fun g hg3 => hg.block g (HG3.out.sl.lt g hg3) (fun e => by
              have h1 := HG3.out.fresh g hg3
              obtain ⟨cur, hb⟩ := sl_ty HS1.out (show _ = some g from e.symm)
              have := hb.lt
              omega))
            have HP8 := Lib.hid (HP3.out.keepT (w3 := w8) (fun g t cur hb ht => hg.block g hb.lt (fun e => by
              obtain ⟨cur2, hb2⟩ := sl_ty HS2.out (show _ = some g from e.symm)
              refine Blk.ne_ hb hb2 ?_ rfl
              rcases ht with rfl | rfl <;> decide)) (HP3.out.only.grown hg fun g hg1 => .inr (by
                have h1 := HG1.out.fresh g hg1
                have := HI.out.pp.only.size
                omega)))
            clear hS hg hat
            have HQ := Lib.hid (ids13 w8 HS8.out HZ8.out (by rw [← HA.out.1]; exact HAL.out))
            go_wp2_with fail
            refine HQ.out.mono ?_
            clear HQ
            rintro e w9 ⟨rfl, ho⟩
            have HP9 := Lib.hid (HP8.out.only0 ho)
            clear ho
            have HQ := Lib.hid (now_ck HP9.out.ca)
            go_wp2_with fail
            refine HQ.out.mono ?_
            clear HQ
            rintro e w10 ⟨rfl, rfl⟩
            have hyy := HYY.out
            have HQ := Lib.hid (timers15 HP9.out.ca (sort_all (by have := HM2.out; omega)) HM2.out)
            go_wp2_with fail
            refine HQ.out.mono ?_
            clear HQ
            rintro e w11 ⟨v1, d1, rfl, hs1, hs2, hs3, hs4, ho⟩
            obtain ⟨b1, f1, rfl, hsh⟩ := hs1.shape
            have HP11 := Lib.hid (HP9.out.only0 ho)
            clear hs1 hs2 hs3 hs4 ho hsh hyy
            have HQ := Lib.hid (timers15 HP11.out.cb (sort_all (by rw [HML.out]; have := HM2.out; omega)) (by rw [HML.out]; exact HM2.out))
            go_wp2_with fail
            refine HQ.out.mono ?_
            clear HQ
            rintro e w12 ⟨v1, d1, rfl, hs1, hs2, hs3, hs4, ho⟩
            obtain ⟨b1, f1, rfl, hsh⟩ := hs1.shape
            have HO12 := Lib.hid (HP11.out.only.trans ho)
            have hml := HML.out
            clear hs1 hs2 hs3 hs4 ho hsh
            rw [hml]
            go_wp2
            exact bodyPost_ret (results_tmp rfl _ _ _) rfl ⟨rfl, HO12.out⟩
          ·
            have HQ := Lib.hid (inf11 wr y HYL.out)
            by_cases hyi : y = 9218868437227405312
            · rw [decide_eq_true hyi] at HQ
              clear hyi
              go_wp2_with fail
              refine HQ.out.mono ?_
              clear HQ
              rintro e w4 ⟨rfl, rfl⟩
              go_wp2
              exact bodyPost_ret (results_tmp rfl _ _ _) rfl ⟨rfl, HI.out.pp.only⟩
            rw [decide_eq_false hyi] at HQ
            have HYI := Lib.hid (show plV y ≠ 9218868437227405312 from fun e => hyi (by
              have h1 := (plB_le HYL.out HLT.out.1).2
              rw [e] at h1
              have h2 := HYL.out
              have h3 := (of_decide_eq_true HLT.out.1).2
              rcases rk_cases y with ⟨h4, h5⟩ | ⟨h4, h5⟩ <;> rw [h5] at h3 <;> omega))
            clear hyi
            go_wp2_with fail
            refine HQ.out.mono ?_
            clear HQ
            rintro e w4 ⟨rfl, rfl⟩
            clear hyg hye h5
            have HXH := Lib.hid (show plV x < 9218868437227405312 by have := HLT.out.2; have := (plB_le HYL.out HLT.out.1).1; have := HYI.out; omega)
            have HLL := Lib.hid (show l.length ≤ 1048576 by rw [HI.out.len]; have := HN2.out; omega)
            have HQ := Lib.hid (go12 w4 (d := x) HI.out.pp.ca HI.out.rel (by decide) HXL.out HLL.out)
            go_wp2_with fail
            refine HQ.out.mono ?_
            clear HQ
            intro e w5 hp
            unfold GoPost at hp
            rw [if_pos ⟨HPX.out, Nat.zero_le _, Nat.ne_of_lt HXH.out⟩] at hp
            obtain ⟨A1, B1, m1, s1, z1, rfl, hgr, hh⟩ := hp
            obtain ⟨a1, c1, hz, hsh⟩ := hgr.sl.shape
            subst hz
            clear hsh
            have HG1 := Lib.hid hgr
            have HP1 := Lib.hid (HI.out.pp.left hgr.ck hgr.gw)
            have HLM1 := Lib.hid (show m1.length ≤ 1048576 by
              have h1 := hgr.rel.len
              have h2 := HI.out.rel.len
              rw [hgr.eq, List.length_append] at h2
              have := HLL.out
              omega)
            clear hgr hh
            have HQ := Lib.hid (go12 w5 (d := y) HP1.out.ca HG1.out.rel HXH.out HYL.out HLM1.out)
            go_wp2_with fail
            refine HQ.out.mono ?_
            clear HQ
            intro e w6 hp
            unfold GoPost at hp
            rw [if_pos ⟨HLT.out.1, HLT.out.2, HYI.out⟩] at hp
            obtain ⟨A2, B2, m2, s2, z2, rfl, hgr, hh⟩ := hp
            obtain ⟨a2, c2, hz, hsh⟩ := hgr.sl.shape
            subst hz
            clear hsh
            have HG2 := Lib.hid hgr
            have HH2 := Lib.hid hh
            have HP2 := Lib.hid (HP1.out.left hgr.ck hgr.gw)
            have HS1 := Lib.hid (sl_keepGW HG1.out.sl HP1.out.ca hgr.gw (by decide) (by decide))
            clear hgr hh
            have HQ := Lib.hid (go12 w6 (d := y) HP2.out.cb HI.out.rel (by decide) HYL.out HLL.out)
            go_wp2_with fail
            refine HQ.out.mono ?_
            clear HQ
            intro e w7 hp
            unfold GoPost at hp
            rw [if_pos ⟨HLT.out.1, Nat.zero_le _, HYI.out⟩] at hp
            obtain ⟨A3, B3, m3, s3, z3, rfl, hgr, hh⟩ := hp
            have hab : A1 ++ A2 = A3 ∧ B2 = B3 := gone_uniq (t := plV y) (by rw [List.append_assoc, ← HG2.out.eq, ← HG1.out.eq, ← hgr.eq]) (fun x hx => by
              rcases List.mem_append.1 hx with hx | hx
              · have := HG1.out.le x hx
                have := HLT.out.2
                omega
              · exact HG2.out.le x hx) HH2.out hgr.le hh
            obtain ⟨hA, hB⟩ := hab
            subst hB
            have HA := Lib.hid (show A1.length + A2.length = A3.length ∧ idc A1 ++ idc A2 = idc A3 by rw [← hA, List.length_append, idc_append]; exact ⟨rfl, rfl⟩)
            clear hA
            have HML := Lib.hid (show m3.length = m2.length by rw [hgr.rel.len, HG2.out.rel.len])
            have HM2 := Lib.hid (show m2.length ≤ 1048576 by
              have h1 := HG2.out.rel.len
              have h2 := HG1.out.rel.len
              rw [HG2.out.eq, List.length_append] at h2
              have := HLM1.out
              omega)
            have HAL := Lib.hid (show A1.length + A2.length ≤ 1048576 by
              have h2 := HI.out.rel.len
              have h3 := HG1.out.rel.len
              rw [HG1.out.eq, HG2.out.eq, List.length_append, List.length_append] at h2
              have := HLL.out
              omega)
            obtain ⟨a3, c3, hz, hsh⟩ := hgr.sl.shape
            subst hz
            clear hsh
            have HG3 := Lib.hid hgr
            have HP3 := Lib.hid (HP2.out.symm.left hgr.ck hgr.gw).symm
            have HS2 := Lib.hid (sl_keepGW HS1.out HP2.out.cb hgr.gw (by decide) (by decide))
            have HT2 := Lib.hid (sl_keepGW HG2.out.sl HP2.out.cb hgr.gw (by decide) (by decide))
            clear hgr hh
            have hyy : (FloatKind.f64.format.order (plV y) y == some .eq) = true := by
              have h0 := of_decide_eq_true HLT.out.1
              have hle := plB_le HYL.out HLT.out.1
              have := ford_eq (rk_le hle.1).2 h0.1
              show (ford (plV y) y == some .eq) = true
              rw [this, (rk_le hle.1).1]
              refine decide_eq_true ?_
              rw [hle.2]
              rcases rk_cases y with ⟨_, e⟩ | ⟨_, e⟩ <;> rw [e] at h0 ⊢
              have := h0.2
              omega
            have HYY := Lib.hid hyy
            clear hyy
            go_wp2_with (at_builtin; refine wpList_append_slsW (by rfl) (.tmp 101) (.tmp 102) 34 rfl 3 j3 _ 1 8 Try.underlying34 si sz0 sz1 sz2 rfl (by decide) rfl HS2.out rfl HT2.out (by intro u hu; obtain ⟨t, _, rfl⟩ := List.mem_map.1 hu; rfl) (by have := HAL.out; unfold maxLen; omega) (by have := HAL.out; omega) ?_)
            intro b2 w8 hS hg hat
            rw [HA.out.1, HA.out.2] at hS
            obtain ⟨ba, bc, hb2, hsh⟩ := hS.shape
            subst hb2
            clear hsh
            have HS8 := Lib.hid hS
            have HZ8 := Lib.hid (HG3.out.sl.keep (w' := w8) fun g hg3 => hg.block g (HG3.out.sl.lt g hg3) (fun e => by
              have h1 := HG3.out.fresh g hg3
              obtain ⟨cur, hb⟩ := sl_ty HS1.out (show _ = some g from e.symm)
              have := hb.lt
              omega))
            have HP8 := Lib.hid (HP3.out.keepT (w3 := w8) (fun g t cur hb ht => hg.block g hb.lt (fun e => by
              obtain ⟨cur2, hb2⟩ := sl_ty HS2.out (show _ = some g from e.symm)
              refine Blk.ne_ hb hb2 ?_ rfl
              rcases ht with rfl | rfl <;> decide)) (HP3.out.only.grown hg fun g hg1 => .inr (by
                have h1 := HG1.out.fresh g hg1
                have := HI.out.pp.only.size
                omega)))
            clear hS hg hat
            have HQ := Lib.hid (ids13 w8 HS8.out HZ8.out (by rw [← HA.out.1]; exact HAL.out))
            go_wp2_with fail
            refine HQ.out.mono ?_
            clear HQ
            rintro e w9 ⟨rfl, ho⟩
            have HP9 := Lib.hid (HP8.out.only0 ho)
            clear ho
            have HQ := Lib.hid (now_ck HP9.out.ca)
            go_wp2_with fail
            refine HQ.out.mono ?_
            clear HQ
            rintro e w10 ⟨rfl, rfl⟩
            have hyy := HYY.out
            have HQ := Lib.hid (timers15 HP9.out.ca (sort_all (by have := HM2.out; omega)) HM2.out)
            go_wp2_with fail
            refine HQ.out.mono ?_
            clear HQ
            rintro e w11 ⟨v1, d1, rfl, hs1, hs2, hs3, hs4, ho⟩
            obtain ⟨b1, f1, rfl, hsh⟩ := hs1.shape
            have HP11 := Lib.hid (HP9.out.only0 ho)
            clear hs1 hs2 hs3 hs4 ho hsh hyy
            have HQ := Lib.hid (timers15 HP11.out.cb (sort_all (by rw [HML.out]; have := HM2.out; omega)) (by rw [HML.out]; exact HM2.out))
            go_wp2_with fail
            refine HQ.out.mono ?_
            clear HQ
            rintro e w12 ⟨v1, d1, rfl, hs1, hs2, hs3, hs4, ho⟩
            obtain ⟨b1, f1, rfl, hsh⟩ := hs1.shape
            have HO12 := Lib.hid (HP11.out.only.trans ho)
            have hml := HML.out
            clear hs1 hs2 hs3 hs4 ho hsh
            rw [hml]
            go_wp2
            exact bodyPost_ret (results_tmp rfl _ _ _) rfl ⟨rfl, HO12.out⟩
        · have HLT := Lib.hid (later HXL.out HYL.out HPX.out (.inl hyg))
          rcases hcs2 with h5 | ⟨h5, h6⟩
          ·
            have HQ := Lib.hid (inf11 wr y HYL.out)
            by_cases hyi : y = 9218868437227405312
            · rw [decide_eq_true hyi] at HQ
              clear hyi
              go_wp2_with fail
              refine HQ.out.mono ?_
              clear HQ
              rintro e w4 ⟨rfl, rfl⟩
              go_wp2
              exact bodyPost_ret (results_tmp rfl _ _ _) rfl ⟨rfl, HI.out.pp.only⟩
            rw [decide_eq_false hyi] at HQ
            have HYI := Lib.hid (show plV y ≠ 9218868437227405312 from fun e => hyi (by
              have h1 := (plB_le HYL.out HLT.out.1).2
              rw [e] at h1
              have h2 := HYL.out
              have h3 := (of_decide_eq_true HLT.out.1).2
              rcases rk_cases y with ⟨h4, h5⟩ | ⟨h4, h5⟩ <;> rw [h5] at h3 <;> omega))
            clear hyi
            go_wp2_with fail
            refine HQ.out.mono ?_
            clear HQ
            rintro e w4 ⟨rfl, rfl⟩
            clear hyg hye h5
            have HXH := Lib.hid (show plV x < 9218868437227405312 by have := HLT.out.2; have := (plB_le HYL.out HLT.out.1).1; have := HYI.out; omega)
            have HLL := Lib.hid (show l.length ≤ 1048576 by rw [HI.out.len]; have := HN2.out; omega)
            have HQ := Lib.hid (go12 w4 (d := x) HI.out.pp.ca HI.out.rel (by decide) HXL.out HLL.out)
            go_wp2_with fail
            refine HQ.out.mono ?_
            clear HQ
            intro e w5 hp
            unfold GoPost at hp
            rw [if_pos ⟨HPX.out, Nat.zero_le _, Nat.ne_of_lt HXH.out⟩] at hp
            obtain ⟨A1, B1, m1, s1, z1, rfl, hgr, hh⟩ := hp
            obtain ⟨a1, c1, hz, hsh⟩ := hgr.sl.shape
            subst hz
            clear hsh
            have HG1 := Lib.hid hgr
            have HP1 := Lib.hid (HI.out.pp.left hgr.ck hgr.gw)
            have HLM1 := Lib.hid (show m1.length ≤ 1048576 by
              have h1 := hgr.rel.len
              have h2 := HI.out.rel.len
              rw [hgr.eq, List.length_append] at h2
              have := HLL.out
              omega)
            clear hgr hh
            have HQ := Lib.hid (go12 w5 (d := y) HP1.out.ca HG1.out.rel HXH.out HYL.out HLM1.out)
            go_wp2_with fail
            refine HQ.out.mono ?_
            clear HQ
            intro e w6 hp
            unfold GoPost at hp
            rw [if_pos ⟨HLT.out.1, HLT.out.2, HYI.out⟩] at hp
            obtain ⟨A2, B2, m2, s2, z2, rfl, hgr, hh⟩ := hp
            obtain ⟨a2, c2, hz, hsh⟩ := hgr.sl.shape
            subst hz
            clear hsh
            have HG2 := Lib.hid hgr
            have HH2 := Lib.hid hh
            have HP2 := Lib.hid (HP1.out.left hgr.ck hgr.gw)
            have HS1 := Lib.hid (sl_keepGW HG1.out.sl HP1.out.ca hgr.gw (by decide) (by decide))
            clear hgr hh
            have HQ := Lib.hid (go12 w6 (d := y) HP2.out.cb HI.out.rel (by decide) HYL.out HLL.out)
            go_wp2_with fail
            refine HQ.out.mono ?_
            clear HQ
            intro e w7 hp
            unfold GoPost at hp
            rw [if_pos ⟨HLT.out.1, Nat.zero_le _, HYI.out⟩] at hp
            obtain ⟨A3, B3, m3, s3, z3, rfl, hgr, hh⟩ := hp
            have hab : A1 ++ A2 = A3 ∧ B2 = B3 := gone_uniq (t := plV y) (by rw [List.append_assoc, ← HG2.out.eq, ← HG1.out.eq, ← hgr.eq]) (fun x hx => by
              rcases List.mem_append.1 hx with hx | hx
              · have := HG1.out.le x hx
                have := HLT.out.2
                omega
              · exact HG2.out.le x hx) HH2.out hgr.le hh
            obtain ⟨hA, hB⟩ := hab
            subst hB
            have HA := Lib.hid (show A1.length + A2.length = A3.length ∧ idc A1 ++ idc A2 = idc A3 by rw [← hA, List.length_append, idc_append]; exact ⟨rfl, rfl⟩)
            clear hA
            have HML := Lib.hid (show m3.length = m2.length by rw [hgr.rel.len, HG2.out.rel.len])
            have HM2 := Lib.hid (show m2.length ≤ 1048576 by
              have h1 := HG2.out.rel.len
              have h2 := HG1.out.rel.len
              rw [HG2.out.eq, List.length_append] at h2
              have := HLM1.out
              omega)
            have HAL := Lib.hid (show A1.length + A2.length ≤ 1048576 by
              have h2 := HI.out.rel.len
              have h3 := HG1.out.rel.len
              rw [HG1.out.eq, HG2.out.eq, List.length_append, List.length_append] at h2
              have := HLL.out
              omega)
            obtain ⟨a3, c3, hz, hsh⟩ := hgr.sl.shape
            subst hz
            clear hsh
            have HG3 := Lib.hid hgr
            have HP3 := Lib.hid (HP2.out.symm.left hgr.ck hgr.gw).symm
            have HS2 := Lib.hid (sl_keepGW HS1.out HP2.out.cb hgr.gw (by decide) (by decide))
            have HT2 := Lib.hid (sl_keepGW HG2.out.sl HP2.out.cb hgr.gw (by decide) (by decide))
            clear hgr hh
            have hyy : (FloatKind.f64.format.order (plV y) y == some .eq) = true := by
              have h0 := of_decide_eq_true HLT.out.1
              have hle := plB_le HYL.out HLT.out.1
              have := ford_eq (rk_le hle.1).2 h0.1
              show (ford (plV y) y == some .eq) = true
              rw [this, (rk_le hle.1).1]
              refine decide_eq_true ?_
              rw [hle.2]
              rcases rk_cases y with ⟨_, e⟩ | ⟨_, e⟩ <;> rw [e] at h0 ⊢
              have := h0.2
              omega
            have HYY := Lib.hid hyy
            clear hyy
            go_wp2_with (at_builtin; refine wpList_append_slsW (by rfl) (.tmp 101) (.tmp 102) 34 rfl 3 j3 _ 1 8 Try.underlying34 si sz0 sz1 sz2 rfl (by decide) rfl HS2.out rfl HT2.out (by intro u hu; obtain ⟨t, _, rfl⟩ := List.mem_map.1 hu; rfl) (by have := HAL.out; unfold maxLen; omega) (by have := HAL.out; omega) ?_)
            intro b2 w8 hS hg hat
            rw [HA.out.1, HA.out.2] at hS
            obtain ⟨ba, bc, hb2, hsh⟩ := hS.shape
            subst hb2
            clear hsh
            have HS8 := Lib.hid hS
            have HZ8 := Lib.hid (HG3.out.sl.keep (w' := w8) fun g hg3 => hg.block g (HG3.out.sl.lt g hg3) (fun e => by
              have h1 := HG3.out.fresh g hg3
              obtain ⟨cur, hb⟩ := sl_ty HS1.out (show _ = some g from e.symm)
              have := hb.lt
              omega))
            have HP8 := Lib.hid (HP3.out.keepT (w3 := w8) (fun g t cur hb ht => hg.block g hb.lt (fun e => by
              obtain ⟨cur2, hb2⟩ := sl_ty HS2.out (show _ = some g from e.symm)
              refine Blk.ne_ hb hb2 ?_ rfl
              rcases ht with rfl | rfl <;> decide)) (HP3.out.only.grown hg fun g hg1 => .inr (by
                have h1 := HG1.out.fresh g hg1
                have := HI.out.pp.only.size
                omega)))
            clear hS hg hat
            have HQ := Lib.hid (ids13 w8 HS8.out HZ8.out (by rw [← HA.out.1]; exact HAL.out))
            go_wp2_with fail
            refine HQ.out.mono ?_
            clear HQ
            rintro e w9 ⟨rfl, ho⟩
            have HP9 := Lib.hid (HP8.out.only0 ho)
            clear ho
            have HQ := Lib.hid (now_ck HP9.out.ca)
            go_wp2_with fail
            refine HQ.out.mono ?_
            clear HQ
            rintro e w10 ⟨rfl, rfl⟩
            have hyy := HYY.out
            have HQ := Lib.hid (timers15 HP9.out.ca (sort_all (by have := HM2.out; omega)) HM2.out)
            go_wp2_with fail
            refine HQ.out.mono ?_
            clear HQ
            rintro e w11 ⟨v1, d1, rfl, hs1, hs2, hs3, hs4, ho⟩
            obtain ⟨b1, f1, rfl, hsh⟩ := hs1.shape
            have HP11 := Lib.hid (HP9.out.only0 ho)
            clear hs1 hs2 hs3 hs4 ho hsh hyy
            have HQ := Lib.hid (timers15 HP11.out.cb (sort_all (by rw [HML.out]; have := HM2.out; omega)) (by rw [HML.out]; exact HM2.out))
            go_wp2_with fail
            refine HQ.out.mono ?_
            clear HQ
            rintro e w12 ⟨v1, d1, rfl, hs1, hs2, hs3, hs4, ho⟩
            obtain ⟨b1, f1, rfl, hsh⟩ := hs1.shape
            have HO12 := Lib.hid (HP11.out.only.trans ho)
            have hml := HML.out
            clear hs1 hs2 hs3 hs4 ho hsh
            rw [hml]
            go_wp2
            exact bodyPost_ret (results_tmp rfl _ _ _) rfl ⟨rfl, HO12.out⟩
          ·
            have HQ := Lib.hid (inf11 wr y HYL.out)
            by_cases hyi : y = 9218868437227405312
            · rw [decide_eq_true hyi] at HQ
              clear hyi
              go_wp2_with fail
              refine HQ.out.mono ?_
              clear HQ
              rintro e w4 ⟨rfl, rfl⟩
              go_wp2
              exact bodyPost_ret (results_tmp rfl _ _ _) rfl ⟨rfl, HI.out.pp.only⟩
            rw [decide_eq_false hyi] at HQ
            have HYI := Lib.hid (show plV y ≠ 9218868437227405312 from fun e => hyi (by
              have h1 := (plB_le HYL.out HLT.out.1).2
              rw [e] at h1
              have h2 := HYL.out
              have h3 := (of_decide_eq_true HLT.out.1).2
              rcases rk_cases y with ⟨h4, h5⟩ | ⟨h4, h5⟩ <;> rw [h5] at h3 <;> omega))
            clear hyi
            go_wp2_with fail
            refine HQ.out.mono ?_
            clear HQ
            rintro e w4 ⟨rfl, rfl⟩
            clear hyg hye h5
            have HXH := Lib.hid (show plV x < 9218868437227405312 by have := HLT.out.2; have := (plB_le HYL.out HLT.out.1).1; have := HYI.out; omega)
            have HLL := Lib.hid (show l.length ≤ 1048576 by rw [HI.out.len]; have := HN2.out; omega)
            have HQ := Lib.hid (go12 w4 (d := x) HI.out.pp.ca HI.out.rel (by decide) HXL.out HLL.out)
            go_wp2_with fail
            refine HQ.out.mono ?_
            clear HQ
            intro e w5 hp
            unfold GoPost at hp
            rw [if_pos ⟨HPX.out, Nat.zero_le _, Nat.ne_of_lt HXH.out⟩] at hp
            obtain ⟨A1, B1, m1, s1, z1, rfl, hgr, hh⟩ := hp
            obtain ⟨a1, c1, hz, hsh⟩ := hgr.sl.shape
            subst hz
            clear hsh
            have HG1 := Lib.hid hgr
            have HP1 := Lib.hid (HI.out.pp.left hgr.ck hgr.gw)
            have HLM1 := Lib.hid (show m1.length ≤ 1048576 by
              have h1 := hgr.rel.len
              have h2 := HI.out.rel.len
              rw [hgr.eq, List.length_append] at h2
              have := HLL.out
              omega)
            clear hgr hh
            have HQ := Lib.hid (go12 w5 (d := y) HP1.out.ca HG1.out.rel HXH.out HYL.out HLM1.out)
            go_wp2_with fail
            refine HQ.out.mono ?_
            clear HQ
            intro e w6 hp
            unfold GoPost at hp
            rw [if_pos ⟨HLT.out.1, HLT.out.2, HYI.out⟩] at hp
            obtain ⟨A2, B2, m2, s2, z2, rfl, hgr, hh⟩ := hp
            obtain ⟨a2, c2, hz, hsh⟩ := hgr.sl.shape
            subst hz
            clear hsh
            have HG2 := Lib.hid hgr
            have HH2 := Lib.hid hh
            have HP2 := Lib.hid (HP1.out.left hgr.ck hgr.gw)
            have HS1 := Lib.hid (sl_keepGW HG1.out.sl HP1.out.ca hgr.gw (by decide) (by decide))
            clear hgr hh
            have HQ := Lib.hid (go12 w6 (d := y) HP2.out.cb HI.out.rel (by decide) HYL.out HLL.out)
            go_wp2_with fail
            refine HQ.out.mono ?_
            clear HQ
            intro e w7 hp
            unfold GoPost at hp
            rw [if_pos ⟨HLT.out.1, Nat.zero_le _, HYI.out⟩] at hp
            obtain ⟨A3, B3, m3, s3, z3, rfl, hgr, hh⟩ := hp
            have hab : A1 ++ A2 = A3 ∧ B2 = B3 := gone_uniq (t := plV y) (by rw [List.append_assoc, ← HG2.out.eq, ← HG1.out.eq, ← hgr.eq]) (fun x hx => by
              rcases List.mem_append.1 hx with hx | hx
              · have := HG1.out.le x hx
                have := HLT.out.2
                omega
              · exact HG2.out.le x hx) HH2.out hgr.le hh
            obtain ⟨hA, hB⟩ := hab
            subst hB
            have HA := Lib.hid (show A1.length + A2.length = A3.length ∧ idc A1 ++ idc A2 = idc A3 by rw [← hA, List.length_append, idc_append]; exact ⟨rfl, rfl⟩)
            clear hA
            have HML := Lib.hid (show m3.length = m2.length by rw [hgr.rel.len, HG2.out.rel.len])
            have HM2 := Lib.hid (show m2.length ≤ 1048576 by
              have h1 := HG2.out.rel.len
              have h2 := HG1.out.rel.len
              rw [HG2.out.eq, List.length_append] at h2
              have := HLM1.out
              omega)
            have HAL := Lib.hid (show A1.length + A2.length ≤ 1048576 by
              have h2 := HI.out.rel.len
              have h3 := HG1.out.rel.len
              rw [HG1.out.eq, HG2.out.eq, List.length_append, List.length_append] at h2
              have := HLL.out
              omega)
            obtain ⟨a3, c3, hz, hsh⟩ := hgr.sl.shape
            subst hz
            clear hsh
            have HG3 := Lib.hid hgr
            have HP3 := Lib.hid (HP2.out.symm.left hgr.ck hgr.gw).symm
            have HS2 := Lib.hid (sl_keepGW HS1.out HP2.out.cb hgr.gw (by decide) (by decide))
            have HT2 := Lib.hid (sl_keepGW HG2.out.sl HP2.out.cb hgr.gw (by decide) (by decide))
            clear hgr hh
            have hyy : (FloatKind.f64.format.order (plV y) y == some .eq) = true := by
              have h0 := of_decide_eq_true HLT.out.1
              have hle := plB_le HYL.out HLT.out.1
              have := ford_eq (rk_le hle.1).2 h0.1
              show (ford (plV y) y == some .eq) = true
              rw [this, (rk_le hle.1).1]
              refine decide_eq_true ?_
              rw [hle.2]
              rcases rk_cases y with ⟨_, e⟩ | ⟨_, e⟩ <;> rw [e] at h0 ⊢
              have := h0.2
              omega
            have HYY := Lib.hid hyy
            clear hyy
            go_wp2_with (at_builtin; refine wpList_append_slsW (by rfl) (.tmp 101) (.tmp 102) 34 rfl 3 j3 _ 1 8 Try.underlying34 si sz0 sz1 sz2 rfl (by decide) rfl HS2.out rfl HT2.out (by intro u hu; obtain ⟨t, _, rfl⟩ := List.mem_map.1 hu; rfl) (by have := HAL.out; unfold maxLen; omega) (by have := HAL.out; omega) ?_)
            intro b2 w8 hS hg hat
            rw [HA.out.1, HA.out.2] at hS
            obtain ⟨ba, bc, hb2, hsh⟩ := hS.shape
            subst hb2
            clear hsh
            have HS8 := Lib.hid hS
            have HZ8 := Lib.hid (HG3.out.sl.keep (w' := w8) fun g hg3 => hg.block g (HG3.out.sl.lt g hg3) (fun e => by
              have h1 := HG3.out.fresh g hg3
              obtain ⟨cur, hb⟩ := sl_ty HS1.out (show _ = some g from e.symm)
              have := hb.lt
              omega))
            have HP8 := Lib.hid (HP3.out.keepT (w3 := w8) (fun g t cur hb ht => hg.block g hb.lt (fun e => by
              obtain ⟨cur2, hb2⟩ := sl_ty HS2.out (show _ = some g from e.symm)
              refine Blk.ne_ hb hb2 ?_ rfl
              rcases ht with rfl | rfl <;> decide)) (HP3.out.only.grown hg fun g hg1 => .inr (by
                have h1 := HG1.out.fresh g hg1
                have := HI.out.pp.only.size
                omega)))
            clear hS hg hat
            have HQ := Lib.hid (ids13 w8 HS8.out HZ8.out (by rw [← HA.out.1]; exact HAL.out))
            go_wp2_with fail
            refine HQ.out.mono ?_
            clear HQ
            rintro e w9 ⟨rfl, ho⟩
            have HP9 := Lib.hid (HP8.out.only0 ho)
            clear ho
            have HQ := Lib.hid (now_ck HP9.out.ca)
            go_wp2_with fail
            refine HQ.out.mono ?_
            clear HQ
            rintro e w10 ⟨rfl, rfl⟩
            have hyy := HYY.out
            have HQ := Lib.hid (timers15 HP9.out.ca (sort_all (by have := HM2.out; omega)) HM2.out)
            go_wp2_with fail
            refine HQ.out.mono ?_
            clear HQ
            rintro e w11 ⟨v1, d1, rfl, hs1, hs2, hs3, hs4, ho⟩
            obtain ⟨b1, f1, rfl, hsh⟩ := hs1.shape
            have HP11 := Lib.hid (HP9.out.only0 ho)
            clear hs1 hs2 hs3 hs4 ho hsh hyy
            have HQ := Lib.hid (timers15 HP11.out.cb (sort_all (by rw [HML.out]; have := HM2.out; omega)) (by rw [HML.out]; exact HM2.out))
            go_wp2_with fail
            refine HQ.out.mono ?_
            clear HQ
            rintro e w12 ⟨v1, d1, rfl, hs1, hs2, hs3, hs4, ho⟩
            obtain ⟨b1, f1, rfl, hsh⟩ := hs1.shape
            have HO12 := Lib.hid (HP11.out.only.trans ho)
            have hml := HML.out
            clear hs1 hs2 hs3 hs4 ho hsh
            rw [hml]
            go_wp2
            exact bodyPost_ret (results_tmp rfl _ _ _) rfl ⟨rfl, HO12.out⟩
        · have HLT := Lib.hid (later HXL.out HYL.out HPX.out (.inl hyg))
          rcases hcs2 with h5 | ⟨h5, h6⟩
          ·
            have HQ := Lib.hid (inf11 wr y HYL.out)
            by_cases hyi : y = 9218868437227405312
            · rw [decide_eq_true hyi] at HQ
              clear hyi
              go_wp2_with fail
              refine HQ.out.mono ?_
              clear HQ
              rintro e w4 ⟨rfl, rfl⟩
              go_wp2
              exact bodyPost_ret (results_tmp rfl _ _ _) rfl ⟨rfl, HI.out.pp.only⟩
            rw [decide_eq_false hyi] at HQ
            have HYI := Lib.hid (show plV y ≠ 9218868437227405312 from fun e => hyi (by
              have h1 := (plB_le HYL.out HLT.out.1).2
              rw [e] at h1
              have h2 := HYL.out
              have h3 := (of_decide_eq_true HLT.out.1).2
              rcases rk_cases y with ⟨h4, h5⟩ | ⟨h4, h5⟩ <;> rw [h5] at h3 <;> omega))
            clear hyi
            go_wp2_with fail
            refine HQ.out.mono ?_
            clear HQ
            rintro e w4 ⟨rfl, rfl⟩
            clear hyg hye h5
            have HXH := Lib.hid (show plV x < 9218868437227405312 by have := HLT.out.2; have := (plB_le HYL.out HLT.out.1).1; have := HYI.out; omega)
            have HLL := Lib.hid (show l.length ≤ 1048576 by rw [HI.out.len]; have := HN2.out; omega)
            have HQ := Lib.hid (go12 w4 (d := x) HI.out.pp.ca HI.out.rel (by decide) HXL.out HLL.out)
            go_wp2_with fail
            refine HQ.out.mono ?_
            clear HQ
            intro e w5 hp
            unfold GoPost at hp
            rw [if_pos ⟨HPX.out, Nat.zero_le _, Nat.ne_of_lt HXH.out⟩] at hp
            obtain ⟨A1, B1, m1, s1, z1, rfl, hgr, hh⟩ := hp
            obtain ⟨a1, c1, hz, hsh⟩ := hgr.sl.shape
            subst hz
            clear hsh
            have HG1 := Lib.hid hgr
            have HP1 := Lib.hid (HI.out.pp.left hgr.ck hgr.gw)
            have HLM1 := Lib.hid (show m1.length ≤ 1048576 by
              have h1 := hgr.rel.len
              have h2 := HI.out.rel.len
              rw [hgr.eq, List.length_append] at h2
              have := HLL.out
              omega)
            clear hgr hh
            have HQ := Lib.hid (go12 w5 (d := y) HP1.out.ca HG1.out.rel HXH.out HYL.out HLM1.out)
            go_wp2_with fail
            refine HQ.out.mono ?_
            clear HQ
            intro e w6 hp
            unfold GoPost at hp
            rw [if_pos ⟨HLT.out.1, HLT.out.2, HYI.out⟩] at hp
            obtain ⟨A2, B2, m2, s2, z2, rfl, hgr, hh⟩ := hp
            obtain ⟨a2, c2, hz, hsh⟩ := hgr.sl.shape
            subst hz
            clear hsh
            have HG2 := Lib.hid hgr
            have HH2 := Lib.hid hh
            have HP2 := Lib.hid (HP1.out.left hgr.ck hgr.gw)
            have HS1 := Lib.hid (sl_keepGW HG1.out.sl HP1.out.ca hgr.gw (by decide) (by decide))
            clear hgr hh
            have HQ := Lib.hid (go12 w6 (d := y) HP2.out.cb HI.out.rel (by decide) HYL.out HLL.out)
            go_wp2_with fail
            refine HQ.out.mono ?_
            clear HQ
            intro e w7 hp
            unfold GoPost at hp
            rw [if_pos ⟨HLT.out.1, Nat.zero_le _, HYI.out⟩] at hp
            obtain ⟨A3, B3, m3, s3, z3, rfl, hgr, hh⟩ := hp
            have hab : A1 ++ A2 = A3 ∧ B2 = B3 := gone_uniq (t := plV y) (by rw [List.append_assoc, ← HG2.out.eq, ← HG1.out.eq, ← hgr.eq]) (fun x hx => by
              rcases List.mem_append.1 hx with hx | hx
              · have := HG1.out.le x hx
                have := HLT.out.2
                omega
              · exact HG2.out.le x hx) HH2.out hgr.le hh
            obtain ⟨hA, hB⟩ := hab
            subst hB
            have HA := Lib.hid (show A1.length + A2.length = A3.length ∧ idc A1 ++ idc A2 = idc A3 by rw [← hA, List.length_append, idc_append]; exact ⟨rfl, rfl⟩)
            clear hA
            have HML := Lib.hid (show m3.length = m2.length by rw [hgr.rel.len, HG2.out.rel.len])
            have HM2 := Lib.hid (show m2.length ≤ 1048576 by
              have h1 := HG2.out.rel.len
              have h2 := HG1.out.rel.len
              rw [HG2.out.eq, List.length_append] at h2
              have := HLM1.out
              omega)
            have HAL := Lib.hid (show A1.length + A2.length ≤ 1048576 by
              have h2 := HI.out.rel.len
              have h3 := HG1.out.rel.len
              rw [HG1.out.eq, HG2.out.eq, List.length_append, List.length_append] at h2
              have := HLL.out
              omega)
            obtain ⟨a3, c3, hz, hsh⟩ := hgr.sl.shape
            subst hz
            clear hsh
            have HG3 := Lib.hid hgr
            have HP3 := Lib.hid (HP2.out.symm.left hgr.ck hgr.gw).symm
            have HS2 := Lib.hid (sl_keepGW HS1.out HP2.out.cb hgr.gw (by decide) (by decide))
            have HT2 := Lib.hid (sl_keepGW HG2.out.sl HP2.out.cb hgr.gw (by decide) (by decide))
            clear hgr hh
            have hyy : (FloatKind.f64.format.order (plV y) y == some .eq) = true := by
              have h0 := of_decide_eq_true HLT.out.1
              have hle := plB_le HYL.out HLT.out.1
              have := ford_eq (rk_le hle.1).2 h0.1
              show (ford (plV y) y == some .eq) = true
              rw [this, (rk_le hle.1).1]
              refine decide_eq_true ?_
              rw [hle.2]
              rcases rk_cases y with ⟨_, e⟩ | ⟨_, e⟩ <;> rw [e] at h0 ⊢
              have := h0.2
              omega
            have HYY := Lib.hid hyy
            clear hyy
            go_wp2_with (at_builtin; refine wpList_append_slsW (by rfl) (.tmp 101) (.tmp 102) 34 rfl 3 j3 _ 1 8 Try.underlying34 si sz0 sz1 sz2 rfl (by decide) rfl HS2.out rfl HT2.out (by intro u hu; obtain ⟨t, _, rfl⟩ := List.mem_map.1 hu; rfl) (by have := HAL.out; unfold maxLen; omega) (by have := HAL.out; omega) ?_)
            intro b2 w8 hS hg hat
            rw [HA.out.1, HA.out.2] at hS
            obtain ⟨ba, bc, hb2, hsh⟩ := hS.shape
            subst hb2
            clear hsh
            have HS8 := Lib.hid hS
            have HZ8 := Lib.hid (HG3.out.sl.keep (w' := w8) fun g hg3 => hg.block g (HG3.out.sl.lt g hg3) (fun e => by
              have h1 := HG3.out.fresh g hg3
              obtain ⟨cur, hb⟩ := sl_ty HS1.out (show _ = some g from e.symm)
              have := hb.lt
              omega))
            have HP8 := Lib.hid (HP3.out.keepT (w3 := w8) (fun g t cur hb ht => hg.block g hb.lt (fun e => by
              obtain ⟨cur2, hb2⟩ := sl_ty HS2.out (show _ = some g from e.symm)
              refine Blk.ne_ hb hb2 ?_ rfl
              rcases ht with rfl | rfl <;> decide)) (HP3.out.only.grown hg fun g hg1 => .inr (by
                have h1 := HG1.out.fresh g hg1
                have := HI.out.pp.only.size
                omega)))
            clear hS hg hat
            have HQ := Lib.hid (ids13 w8 HS8.out HZ8.out (by rw [← HA.out.1]; exact HAL.out))
            go_wp2_with fail
            refine HQ.out.mono ?_
            clear HQ
            rintro e w9 ⟨rfl, ho⟩
            have HP9 := Lib.hid (HP8.out.only0 ho)
            clear ho
            have HQ := Lib.hid (now_ck HP9.out.ca)
            go_wp2_with fail
            refine HQ.out.mono ?_
            clear HQ
            rintro e w10 ⟨rfl, rfl⟩
            have hyy := HYY.out
            have HQ := Lib.hid (timers15 HP9.out.ca (sort_all (by have := HM2.out; omega)) HM2.out)
            go_wp2_with fail
            refine HQ.out.mono ?_
            clear HQ
            rintro e w11 ⟨v1, d1, rfl, hs1, hs2, hs3, hs4, ho⟩
            obtain ⟨b1, f1, rfl, hsh⟩ := hs1.shape
            have HP11 := Lib.hid (HP9.out.only0 ho)
            clear hs1 hs2 hs3 hs4 ho hsh hyy
            have HQ := Lib.hid (timers15 HP11.out.cb (sort_all (by rw [HML.out]; have := HM2.out; omega)) (by rw [HML.out]; exact HM2.out))
            go_wp2_with fail
            refine HQ.out.mono ?_
            clear HQ
            rintro e w12 ⟨v1, d1, rfl, hs1, hs2, hs3, hs4, ho⟩
            obtain ⟨b1, f1, rfl, hsh⟩ := hs1.shape
            have HO12 := Lib.hid (HP11.out.only.trans ho)
            have hml := HML.out
            clear hs1 hs2 hs3 hs4 ho hsh
            rw [hml]
            go_wp2
            exact bodyPost_ret (results_tmp rfl _ _ _) rfl ⟨rfl, HO12.out⟩
          ·
            have HQ := Lib.hid (inf11 wr y HYL.out)
            by_cases hyi : y = 9218868437227405312
            · rw [decide_eq_true hyi] at HQ
              clear hyi
              go_wp2_with fail
              refine HQ.out.mono ?_
              clear HQ
              rintro e w4 ⟨rfl, rfl⟩
              go_wp2
              exact bodyPost_ret (results_tmp rfl _ _ _) rfl ⟨rfl, HI.out.pp.only⟩
            rw [decide_eq_false hyi] at HQ
            have HYI := Lib.hid (show plV y ≠ 9218868437227405312 from fun e => hyi (by
              have h1 := (plB_le HYL.out HLT.out.1).2
              rw [e] at h1
              have h2 := HYL.out
              have h3 := (of_decide_eq_true HLT.out.1).2
              rcases rk_cases y with ⟨h4, h5⟩ | ⟨h4, h5⟩ <;> rw [h5] at h3 <;> omega))
            clear hyi
            go_wp2_with fail
            refine HQ.out.mono ?_
            clear HQ
            rintro e w4 ⟨rfl, rfl⟩
            clear hyg hye h5
            have HXH := Lib.hid (show plV x < 9218868437227405312 by have := HLT.out.2; have := (plB_le HYL.out HLT.out.1).1; have := HYI.out; omega)
            have HLL := Lib.hid (show l.length ≤ 1048576 by rw [HI.out.len]; have := HN2.out; omega)
            have HQ := Lib.hid (go12 w4 (d := x) HI.out.pp.ca HI.out.rel (by decide) HXL.out HLL.out)
            go_wp2_with fail
            refine HQ.out.mono ?_
            clear HQ
            intro e w5 hp
            unfold GoPost at hp
            rw [if_pos ⟨HPX.out, Nat.zero_le _, Nat.ne_of_lt HXH.out⟩] at hp
            obtain ⟨A1, B1, m1, s1, z1, rfl, hgr, hh⟩ := hp
            obtain ⟨a1, c1, hz, hsh⟩ := hgr.sl.shape
            subst hz
            clear hsh
            have HG1 := Lib.hid hgr
            have HP1 := Lib.hid (HI.out.pp.left hgr.ck hgr.gw)
            have HLM1 := Lib.hid (show m1.length ≤ 1048576 by
              have h1 := hgr.rel.len
              have h2 := HI.out.rel.len
              rw [hgr.eq, List.length_append] at h2
              have := HLL.out
              omega)
            clear hgr hh
            have HQ := Lib.hid (go12 w5 (d := y) HP1.out.ca HG1.out.rel HXH.out HYL.out HLM1.out)
            go_wp2_with fail
            refine HQ.out.mono ?_
            clear HQ
            intro e w6 hp
            unfold GoPost at hp
            rw [if_pos ⟨HLT.out.1, HLT.out.2, HYI.out⟩] at hp
            obtain ⟨A2, B2, m2, s2, z2, rfl, hgr, hh⟩ := hp
            obtain ⟨a2, c2, hz, hsh⟩ := hgr.sl.shape
            subst hz
            clear hsh
            have HG2 := Lib.hid hgr
            have HH2 := Lib.hid hh
            have HP2 := Lib.hid (HP1.out.left hgr.ck hgr.gw)
            have HS1 := Lib.hid (sl_keepGW HG1.out.sl HP1.out.ca hgr.gw (by decide) (by decide))
            clear hgr hh
            have HQ := Lib.hid (go12 w6 (d := y) HP2.out.cb HI.out.rel (by decide) HYL.out HLL.out)
            go_wp2_with fail
            refine HQ.out.mono ?_
            clear HQ
            intro e w7 hp
            unfold GoPost at hp
            rw [if_pos ⟨HLT.out.1, Nat.zero_le _, HYI.out⟩] at hp
            obtain ⟨A3, B3, m3, s3, z3, rfl, hgr, hh⟩ := hp
            have hab : A1 ++ A2 = A3 ∧ B2 = B3 := gone_uniq (t := plV y) (by rw [List.append_assoc, ← HG2.out.eq, ← HG1.out.eq, ← hgr.eq]) (fun x hx => by
              rcases List.mem_append.1 hx with hx | hx
              · have := HG1.out.le x hx
                have := HLT.out.2
                omega
              · exact HG2.out.le x hx) HH2.out hgr.le hh
            obtain ⟨hA, hB⟩ := hab
            subst hB
            have HA := Lib.hid (show A1.length + A2.length = A3.length ∧ idc A1 ++ idc A2 = idc A3 by rw [← hA, List.length_append, idc_append]; exact ⟨rfl, rfl⟩)
            clear hA
            have HML := Lib.hid (show m3.length = m2.length by rw [hgr.rel.len, HG2.out.rel.len])
            have HM2 := Lib.hid (show m2.length ≤ 1048576 by
              have h1 := HG2.out.rel.len
              have h2 := HG1.out.rel.len
              rw [HG2.out.eq, List.length_append] at h2
              have := HLM1.out
              omega)
            have HAL := Lib.hid (show A1.length + A2.length ≤ 1048576 by
              have h2 := HI.out.rel.len
              have h3 := HG1.out.rel.len
              rw [HG1.out.eq, HG2.out.eq, List.length_append, List.length_append] at h2
              have := HLL.out
              omega)
            obtain ⟨a3, c3, hz, hsh⟩ := hgr.sl.shape
            subst hz
            clear hsh
            have HG3 := Lib.hid hgr
            have HP3 := Lib.hid (HP2.out.symm.left hgr.ck hgr.gw).symm
            have HS2 := Lib.hid (sl_keepGW HS1.out HP2.out.cb hgr.gw (by decide) (by decide))
            have HT2 := Lib.hid (sl_keepGW HG2.out.sl HP2.out.cb hgr.gw (by decide) (by decide))
            clear hgr hh
            have hyy : (FloatKind.f64.format.order (plV y) y == some .eq) = true := by
              have h0 := of_decide_eq_true HLT.out.1
              have hle := plB_le HYL.out HLT.out.1
              have := ford_eq (rk_le hle.1).2 h0.1
              show (ford (plV y) y == some .eq) = true
              rw [this, (rk_le hle.1).1]
              refine decide_eq_true ?_
              rw [hle.2]
              rcases rk_cases y with ⟨_, e⟩ | ⟨_, e⟩ <;> rw [e] at h0 ⊢
              have := h0.2
              omega
            have HYY := Lib.hid hyy
            clear hyy
            go_wp2_with (at_builtin; refine wpList_append_slsW (by rfl) (.tmp 101) (.tmp 102) 34 rfl 3 j3 _ 1 8 Try.underlying34 si sz0 sz1 sz2 rfl (by decide) rfl HS2.out rfl HT2.out (by intro u hu; obtain ⟨t, _, rfl⟩ := List.mem_map.1 hu; rfl) (by have := HAL.out; unfold maxLen; omega) (by have := HAL.out; omega) ?_)
            intro b2 w8 hS hg hat
            rw [HA.out.1, HA.out.2] at hS
            obtain ⟨ba, bc, hb2, hsh⟩ := hS.shape
            subst hb2
            clear hsh
            have HS8 := Lib.hid hS
            have HZ8 := Lib.hid (HG3.out.sl.keep (w' := w8) fun g hg3 => hg.block g (HG3.out.sl.lt g hg3) (fun e => by
              have h1 := HG3.out.fresh g hg3
              obtain ⟨cur, hb⟩ := sl_ty HS1.out (show _ = some g from e.symm)
              have := hb.lt
              omega))
            have HP8 := Lib.hid (HP3.out.keepT (w3 := w8) (fun g t cur hb ht => hg.block g hb.lt (fun e => by
              obtain ⟨cur2, hb2⟩ := sl_ty HS2.out (show _ = some g from e.symm)
              refine Blk.ne_ hb hb2 ?_ rfl
              rcases ht with rfl | rfl <;> decide)) (HP3.out.only.grown hg fun g hg1 => .inr (by
                have h1 := HG1.out.fresh g hg1
                have := HI.out.pp.only.size
                omega)))
            clear hS hg hat
            have HQ := Lib.hid (ids13 w8 HS8.out HZ8.out (by rw [← HA.out.1]; exact HAL.out))
            go_wp2_with fail
            refine HQ.out.mono ?_
            clear HQ
            rintro e w9 ⟨rfl, ho⟩
            have HP9 := Lib.hid (HP8.out.only0 ho)
            clear ho
            have HQ := Lib.hid (now_ck HP9.out.ca)
            go_wp2_with fail
            refine HQ.out.mono ?_
            clear HQ
            rintro e w10 ⟨rfl, rfl⟩
            have hyy := HYY.out
            have HQ := Lib.hid (timers15 HP9.out.ca (sort_all (by have := HM2.out; omega)) HM2.out)
            go_wp2_with fail
            refine HQ.out.mono ?_
            clear HQ
            rintro e w11 ⟨v1, d1, rfl, hs1, hs2, hs3, hs4, ho⟩
            obtain ⟨b1, f1, rfl, hsh⟩ := hs1.shape
            have HP11 := Lib.hid (HP9.out.only0 ho)
            clear hs1 hs2 hs3 hs4 ho hsh hyy
            have HQ := Lib.hid (timers15 HP11.out.cb (sort_all (by rw [HML.out]; have := HM2.out; omega)) (by rw [HML.out]; exact HM2.out))
            go_wp2_with fail
            refine HQ.out.mono ?_
            clear HQ
            rintro e w12 ⟨v1, d1, rfl, hs1, hs2, hs3, hs4, ho⟩
            obtain ⟨b1, f1, rfl, hsh⟩ := hs1.shape
            have HO12 := Lib.hid (HP11.out.only.trans ho)
            have hml := HML.out
            clear hs1 hs2 hs3 hs4 ho hsh
            rw [hml]
            go_wp2
            exact bodyPost_ret (results_tmp rfl _ _ _) rfl ⟨rfl, HO12.out⟩
    have hkz : (k : Int) < (ds.length : Int) := by omega
    have hkz2 : (k : Int) < 200 := by omega
    have HKL := Lib.hid hkl
    obtain ⟨g, off, rfl, hg, hcc⟩ := HC.out (by omega)
    have hdk := HD.out k hkl.1
    have x0 : wr.cell? ⟨g, off + k, none⟩ = some (.int .u64 ds[k]) := (HI.out.pp.only.cell (p := ⟨g, off + k, none⟩) hg (by simp)).trans (hcc k hkl.1)
    have HX0 := Lib.hid (And.intro hg (hcc k hkl.1))
    generalize ds[k] = d at *
    have HDK := Lib.hid hdk
    have e2 := wrap_sm (n := 200) (by decide) hkl.2
    have HQ := Lib.hid (after9 wr (d := d) HI.out.pp.ca (by decide) hdk (by have := HK.out; omega))
    have HNK := Lib.hid (show k + 1 ≤ ds.length ∧ k + 1 ≤ 200 ∧ 200 - (k + 1) < 200 - k by omega)
    clear hkl hdk hcc hg
    have HLN := Lib.hid (show ¬ 256 ≤ l.length by rw [HI.out.len]; have := HK.out; omega)
    cases hb : plB d
    · have HB := Lib.hid hb
      clear hb
      go_wp2_with fail
      refine HQ.out.mono ?_
      clear HQ
      intro e w3 hp
      unfold AfterPost at hp
      rw [HB.out, if_neg (by simp)] at hp
      obtain ⟨rfl, rfl⟩ := hp
      have HQ := Lib.hid (after9 w3 (d := d) HI.out.pp.cb (by decide) HDK.out (by have := HK.out; omega))
      go_wp2_with fail
      refine HQ.out.mono ?_
      clear HQ
      intro e w4 hp
      unfold AfterPost at hp
      rw [HB.out, if_neg (by simp)] at hp
      obtain ⟨rfl, rfl⟩ := hp
      go_wp2
      go_roundw
      case measure => (try rw [e2]); exact meas HNK.out.2.2
      case rel => exact ⟨k + 1, n, l, L, sa, sb, by first | rfl | rw [e2], Lib.hid ⟨HNK.out.1, HNK.out.2.1, by have := HK.out; omega⟩, HI⟩
    · have HB := Lib.hid hb
      clear hb
      go_wp2_with fail
      refine HQ.out.mono ?_
      clear HQ
      intro e w3 hp
      unfold AfterPost at hp
      rw [HB.out, if_pos rfl, if_neg HLN.out] at hp
      obtain ⟨rfl, sa2, hc, hg⟩ := hp
      have HP := Lib.hid (HI.out.pp.left hc hg)
      clear hc hg x0
      have x0 : w3.cell? ⟨g, off + k, none⟩ = some (.int .u64 d) := (HP.out.only.cell (p := ⟨g, off + k, none⟩) HX0.out.1 (by simp)).trans HX0.out.2
      have HQ := Lib.hid (after9 w3 (d := d) HP.out.cb (by decide) HDK.out (by have := HK.out; omega))
      go_wp2_with fail
      refine HQ.out.mono ?_
      clear HQ
      intro e w4 hp
      unfold AfterPost at hp
      rw [HB.out, if_pos rfl, if_neg HLN.out] at hp
      obtain ⟨rfl, sb2, hc, hg⟩ := hp
      have HR2 := Lib.hid (show ∃ l2 L2, R1 w w4 ra rb (n + 1) l2 L2 sa2 sb2 from by
        have h1 := (HP.out.symm.left hc hg).symm
        have h2 := HI.out.rel.ins (t := addW 0 (plV d)) HI.out.ids
        exact ⟨_, _, h1, h2.1, h2.2, by rw [hpush_len, HI.out.len]⟩)
      clear hc hg
      obtain ⟨l2, L2, hr2⟩ := HR2.out
      have HR3 := Lib.hid hr2
      clear hr2 HR2
      go_wp2
      go_roundw
      case measure => (try rw [e2]); exact meas HNK.out.2.2
      case rel => exact ⟨k + 1, n + 1, l2, L2, sa2, sb2, by first | rfl | rw [e2], Lib.hid ⟨HNK.out.1, HNK.out.2.1, by have := HK.out; omega⟩, HR3⟩
end Go.Proofs.Ytjnhplgdbdneiaa
