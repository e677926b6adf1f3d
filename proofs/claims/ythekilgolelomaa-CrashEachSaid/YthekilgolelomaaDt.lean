/-
  The disk: what a crash leaves of a file.
-/
import Derived.Test.YthekilgolelomaaDs
set_option linter.unusedSimpArgs false
set_option linter.unusedVariables false
namespace Go.Proofs.Ythekilgolelomaa
open Go.RowKit Go.Fl

/-- How many bytes of the tail are kept. -/
def FD.cutN (f : FD) (N : Int) : Nat := (min (max N 0) (f.tail.length : Int)).toNat
/-- How many bytes of junk stand behind them. -/
def FD.junk (f : FD) (N : Int) (J : List UInt8) : Nat := min J.length (min (f.tail.length - f.cutN N) 512)
/-- What a crash leaves of a file. -/
def FD.left (f : FD) (N : Int) (J : List UInt8) : List UInt8 := f.lasts ++ f.kept (f.cutN N) ++ J.take (f.junk N J)
/-- A file that lasts as it is. -/
def FD.flat (l : List UInt8) : FD := ⟨l, l, 0⟩
def tailV : Value → Nat → Nat → Value
  | .slice a _ c, k, m => .slice (if c = k then a else a.map (·.add k)) m (c - k)
  | v, _, _ => v
theorem tailV_slice (a : Option Addr) (n c k m : Nat) : tailV (.slice a n c) k m = .slice (if c = k then a else a.map (·.add k)) m (c - k) := rfl
theorem cutN_le (f : FD) (N : Int) : f.cutN N ≤ f.tail.length := by unfold FD.cutN; omega
theorem junk_le (f : FD) (N : Int) (J : List UInt8) : f.junk N J ≤ J.length ∧ f.cutN N + f.junk N J ≤ f.tail.length := by
  have := cutN_le f N
  unfold FD.junk
  omega
theorem tail_len (f : FD) : f.tail.length = f.b.length - f.lasts.length := by unfold FD.tail; simp
theorem left_len (f : FD) (h : f.lasts.length ≤ f.b.length) (N : Int) (J : List UInt8) : (f.left N J).length = f.lasts.length + f.cutN N + f.junk N J ∧ (f.left N J).length ≤ f.b.length := by
  have h1 := junk_le f N J
  have h2 := tail_len f
  have h3 := kept_len f (cutN_le f N)
  have h4 : (f.left N J).length = f.lasts.length + f.cutN N + f.junk N J := by
    unfold FD.left
    rw [List.length_append, List.length_append, h3, List.length_take, Nat.min_eq_left h1.1]
  refine ⟨h4, ?_⟩
  rw [h4]
  omega
section
variable {w w' : World} {F G : Nat → Prop} {d : Nat} {p p' : PD} {fs : Nat → FD} {ids : Nat → Prop} {nb lb : Nat} {pv fv pv' fv' bv lv : Value}
set_option maxRecDepth 100000 in
set_option maxHeartbeats 1600000 in
theorem tail_v {i : Nat} {f : FD} (h : FM w i f bv lv) : Calls Try.prog 47 #[fp i] w fun e w' => e = .returned (tailV bv f.lasts.length f.tail.length) ∧ w' = w.drew := by
  have x0 := h.blk.cell 0
  have x1 := h.blk.cell 1
  have xl := h.blk.lt
  have hle := h.ok.1
  obtain ⟨ba, bc, hbv, hbc, _⟩ := h.b.shape
  obtain ⟨la, lc, hlv, _, _⟩ := h.l.shape
  subst hbv
  subst hlv
  simp at x0 x1
  have HE := Lib.hid (tail_len f)
  have hcc : f.lasts.length ≤ bc := by omega
  have hlz : (f.lasts.length : Int) ≤ (f.b.length : Int) := by omega
  have hcz : (f.lasts.length : Int) ≤ (bc : Int) := by omega
  clear h
  rw [tailV_slice, HE.out]
  by_cases hq : bc = f.lasts.length
  · rw [if_pos hq]
    go_enter Try.func47, Try.ntmps47
    go_upto_region 1 with fail
    refine Lex.wp_region_text (by kernel_rfl) (by kernel_rfl) ?_
    go_wp2_with fail
    refine Lex.sq_done (by rfl) ?_
    go_wp2
    refine bodyPost_ret (results_tmp rfl _ _ _) rfl ⟨?_, rfl⟩
    simp [hq]
  · rw [if_neg hq]
    go_enter Try.func47, Try.ntmps47
    go_upto_region 1 with fail
    refine Lex.wp_region_text (by kernel_rfl) (by kernel_rfl) ?_
    go_wp2_with fail
    refine Lex.sq_done (by rfl) ?_
    go_wp2
    refine bodyPost_ret (results_tmp rfl _ _ _) rfl ⟨?_, rfl⟩
    rfl
theorem tail_q {i : Nat} {f : FD} (h : FM w i f bv lv) (n : Nat) : Calls Try.prog 47 #[fp i] (w.drewN n) fun e w' => e = .returned (tailV bv f.lasts.length f.tail.length) ∧ ∃ m, w' = (w.drewN n).drewN m := by
  refine (tail_v (FM.only0 h ((Only.refl _ _).drewN n))).mono ?_
  rintro e w' ⟨rfl, rfl⟩
  exact ⟨rfl, 1, rfl⟩
theorem info5b : (Try.prog.info? 5).map (fun i => (i.zero, i.size, i.bytes)) = some (some (.int .u8 0), 1, 1) := by kernel_rfl
set_option maxRecDepth 100000 in
set_option maxHeartbeats 3200000 in
theorem left_ok {i : Nat} {f : FD} (h : FM w i f bv lv) {N : Int} {J : List UInt8} {jv : Value} (hj : Sr w 1 jv J.length (byV J)) : Calls Try.prog 44 #[fp i, .agg #[iv N, jv]] w fun e w' =>
    ∃ g b' l', e = .returned (fp g) ∧ w.heap.size ≤ g ∧ FM w' g (FD.flat (f.left N J)) b' l' ∧ Only [] w w' ∧ (∀ k, b'.ownBlock = some k → w.heap.size ≤ k) ∧ (∀ k, l'.ownBlock = some k → w.heap.size ≤ k) ∧ ∀ k, b'.ownBlock = some k → l'.ownBlock ≠ some k := by
  obtain ⟨j5, si, sz0, sz1, sz2⟩ := info_parts info5
  have H := Lib.hid h
  obtain ⟨ba, bc, hbv, _, _⟩ := h.b.shape
  obtain ⟨T, hT⟩ : ∃ T, f.tail.length = T := ⟨_, rfl⟩
  obtain ⟨ta, tc, htv⟩ : ∃ a c, tailV bv f.lasts.length T = .slice a T c := by rw [hbv, tailV_slice]; exact ⟨_, _, rfl⟩
  have HTE := Lib.hid hT
  have HTL := Lib.hid (show T ≤ 1073741824 by rw [← hT, tail_len]; have := h.ok.2.2; omega)
  have HTQ : Hid (∀ w2 n, Only [] w w2 → Calls Try.prog 47 #[fp i] (w2.drewN n) fun e w' => e = .returned (.slice ta T tc) ∧ ∃ m, w' = (w2.drewN n).drewN m) := Lib.hid fun w2 n ho => by
    rw [← htv, ← hT]
    exact tail_q (FM.only0 h ho) n
  obtain ⟨ja, jc, hjv, hjc, _⟩ := hj.shape
  subst hjv
  have HJ := Lib.hid hj
  have HO0 := Lib.hid ((Only.refl [] w).alloc (.cells #[iv N, .slice ja J.length jc] 75))
  have HBX := Lib.hid (Blk.new w 75 #[iv N, .slice ja J.length jc])
  have c0 := HBX.out.cell 0
  have c1 := HBX.out.cell 1
  have xlb := HBX.out.lt
  simp at c0 c1
  have hTz : (T : Int) ≤ 1073741824 := by have := HTL.out; omega
  have hTp : 0 ≤ (T : Int) := Int.natCast_nonneg T
  have hJp : 0 ≤ (J.length : Int) := Int.natCast_nonneg _
  have HCE : f.cutN N = (min (max N 0) (T : Int)).toNat := by unfold FD.cutN; rw [hT]
  have HJE : f.junk N J = min J.length (min (T - f.cutN N) 512) := by unfold FD.junk; rw [hT]
  obtain ⟨X, hX⟩ : ∃ X, f.left N J = X := ⟨_, rfl⟩
  have HXE := Lib.hid hX
  rw [hX]
  clear hX
  obtain ⟨M, hM⟩ : ∃ M, f.cutN N = M := ⟨_, rfl⟩
  obtain ⟨Q, hQ⟩ : ∃ Q, f.junk N J = Q := ⟨_, rfl⟩
  obtain ⟨D, hD⟩ : ∃ D, T - M = D := ⟨_, rfl⟩
  rw [hM] at HCE HJE
  rw [hQ, hD] at HJE
  have hML : M ≤ T := by omega
  have hmx : min (max N 0) (T : Int) = (M : Int) := by omega
  have hsub : IntKind.i64.wrap ((T : Int) - (M : Int)) = (D : Int) := by
    rw [IntWalk.i64_in _ (by omega)]
    omega
  have hq : min (min J.length D) 512 = Q := by omega
  have hm3 : ∀ (ts : Array TypeId) (t : TypeId) (w : World), (Builtin.min_ ts t #[.int .i64 (J.length : Int), .int .i64 (D : Int), .int .i64 512]).run Try.prog w = .ok (.int .i64 (Q : Int)) w := fun ts t w => by
    have h1 : (if (512 : Int) < (if (D : Int) < (J.length : Int) then (D : Int) else (J.length : Int)) then (512 : Int) else (if (D : Int) < (J.length : Int) then (D : Int) else (J.length : Int))) = (Q : Int) := by
      rw [← hq]
      by_cases ha : (D : Int) < (J.length : Int)
      · rw [if_pos ha]
        by_cases hb : (512 : Int) < (D : Int)
        · rw [if_pos hb]; omega
        · rw [if_neg hb]; omega
      · rw [if_neg ha]
        by_cases hb : (512 : Int) < (J.length : Int)
        · rw [if_pos hb]; omega
        · rw [if_neg hb]; omega
    rw [← h1]
    simp [Builtin.min_, Builtin.min2]
  have hQJ : Q ≤ J.length := by omega
  have hQc : (Q : Int) ≤ (jc : Int) := by omega
  have HM := Lib.hid hM
  have HQ := Lib.hid hQ
  have HN := Lib.hid (show M ≤ T ∧ M + Q ≤ T ∧ Q ≤ J.length from ⟨by omega, by omega, by omega⟩)
  clear h hbv hT htv hj HCE HJE hM hQ hD hML hQJ hTp hJp hq
  go_enter Try.func44, Try.ntmps44
  go_upto_region 1 with fail
  go_quiet ((go_at_call 47; exact Calls.quiet_of (HTQ.out _ _ HO0.out)))
  have HO1 := Lib.hid ((HO0.out.drewN nq))
  have HB1 := Lib.hid (HBX.out.drewN nq)
  clear c0 c1 xlb HBX HO0
  generalize (w.alloc (.cells #[iv N, .slice ja J.length jc] 75)).drewN nq = w1 at HO1 HB1 ⊢
  have c0 := HB1.out.cell 0
  have c1 := HB1.out.cell 1
  have xlb := HB1.out.lt
  simp at c0 c1
  go_upto_region 2 with fail
  go_quiet ((go_at_call 47; exact Calls.quiet_of (HTQ.out _ _ HO1.out)))
  have HO2 := Lib.hid ((HO1.out.drewN nq))
  have HB2 := Lib.hid (HB1.out.drewN nq)
  clear c0 c1 xlb HB1 HO1 hmx hsub hm3
  generalize w1.drewN nq = w2 at HO2 HB2 ⊢
  have HF2 := Lib.hid (FM.only0 H.out HO2.out)
  obtain ⟨la, lc, hlv, _, _⟩ := H.out.l.shape
  have HLV := Lib.hid hlv
  have HL2 := Lib.hid HF2.out.l
  rw [hlv] at HL2
  have x1 := HF2.out.blk.cell 1
  have xl := HF2.out.blk.lt
  simp at x1
  rw [hlv] at x1
  clear hlv
  have HLL := Lib.hid (show f.lasts.length + (f.kept M).length ≤ 1073741824 ∧ (f.kept M).length = M ∧ f.lasts.length ≤ 1073741824 from by
    obtain ⟨h1, _, h0⟩ := H.out.ok
    have h2 := tail_len f
    have h3 := HN.out.1
    have h4 := HTE.out
    rw [kept_len f (by rw [HTE.out]; exact HN.out.1)]
    refine ⟨?_, rfl, ?_⟩ <;> omega)
  go_wp2_with (at_builtin; refine wpList_append_sls rfl (.const (.slice none 0 0)) (.tmp 27) 29 rfl 5 j5 _ 1 1 Try.underlying29 si sz0 sz1 sz2 rfl (by decide) rfl (Sl.nil _ _ _) rfl HL2.out (by intro u hu; obtain ⟨c, _, rfl⟩ := List.mem_map.1 hu; rfl) (by have := HLL.out.2.2; unfold maxLen; omega) (by have := HLL.out.2.2; omega) ?_)
  intro v3 w3 hS3 hg3 hat3
  have HO3 := Lib.hid (show Only [] w w3 from HO2.out.grown hg3 fun k hk => by cases hk)
  have HW3 := Lib.hid (show ∀ g, v3.ownBlock = some g → w.heap.size ≤ g from fun g hg => by
    rcases hat3 with e | e
    · rw [e] at hg; cases hg
    · rw [e] at hg
      injection hg with hg
      have := HO2.out.size
      omega)
  have HS3 := Lib.hid (show Sl w3 5 1 v3 f.lasts.length (byV f.lasts) by simpa using hS3)
  obtain ⟨a3, c3, hv3, _, _⟩ := hS3.shape
  subst hv3
  have HB3 := Lib.hid (HB2.out.only (Only.grown (Only.refl [] w2) hg3 fun k hk => by cases hk) (by simp))
  clear hS3 hg3 hat3 x1 xl HL2 HF2 HB2 HO2
  go_wp2_with fail
  refine (kept_ok (FM.only0 H.out HO3.out) (n := M) (by rw [HTE.out]; exact HN.out.1)).mono ?_
  rintro e w4 ⟨v4, rfl, hs4, ho4, hw4⟩
  have HO4 := Lib.hid (HO3.out.trans ho4)
  have HS4 := Lib.hid (show Sl w4 5 1 v4 (f.kept M).length (byV (f.kept M)) by rw [HLL.out.2.1]; exact hs4)
  have HS34 := Lib.hid (HS3.out.only ho4 (by simp))
  have HB4 := Lib.hid (HB3.out.only ho4 (by simp))
  obtain ⟨a4, c4, hv4, _, _⟩ := HS4.out.shape
  subst hv4
  clear hs4 ho4 hw4 HS3 HB3 HO3
  go_wp2_with (at_builtin; refine wpList_append_sls rfl (.tmp 28) (.tmp 31) 29 rfl 5 j5 _ 1 1 Try.underlying29 si sz0 sz1 sz2 rfl (by decide) rfl HS34.out rfl HS4.out (by intro u hu; obtain ⟨c, _, rfl⟩ := List.mem_map.1 hu; rfl) (by have := HLL.out.1; unfold maxLen; omega) (by have := HLL.out.1; omega) ?_)
  intro v5 w5 hS5 hg5 hat5
  have HO5 := Lib.hid (HO4.out.grown hg5 fun k hk => .inr (HW3.out k (by simpa using hk)))
  have HW5 := Lib.hid (show ∀ g, v5.ownBlock = some g → w.heap.size ≤ g from fun g hg => by
    rcases hat5 with e | e
    · rw [e] at hg; exact HW3.out g hg
    · rw [e] at hg
      injection hg with hg
      have := HO4.out.size
      omega)
  obtain ⟨Y, hY⟩ : ∃ Y, f.lasts ++ f.kept M = Y := ⟨_, rfl⟩
  have HYE := Lib.hid hY
  have HS5 := Lib.hid (show Sl w5 5 1 v5 Y.length (byV Y) by rw [← hY, byV_append, List.length_append]; exact hS5)
  obtain ⟨a5, c5, hv5, _, _⟩ := HS5.out.shape
  subst hv5
  have HB5 := Lib.hid (show Blk w5 w.heap.size 75 #[iv N, .slice ja J.length jc] from Blk.grown HB4.out hg5 (fun e => by
    obtain ⟨cur, hc⟩ := Go.Proofs.Ythekilgolelomaa.Sl.blk HS34.out e
    exact Blk.ne_ hc HB4.out (by decide) rfl))
  have HJ5 := Lib.hid (Sr.front (HJ.out.only0 HO5.out) HN.out.2.2 (cap2 := jc) (Nat.le_trans HN.out.2.2 hjc) (Nat.le_refl _))
  rw [Nat.mul_one, ← byV_take] at HJ5
  have HQL := Lib.hid (show (J.take Q).length = Q from by rw [List.length_take]; exact Nat.min_eq_left HN.out.2.2)
  have HXL := Lib.hid (show Y.length + Q ≤ 1073741824 from by
    rw [← hY]
    obtain ⟨h1, _, h0⟩ := H.out.ok
    have h2 := tail_len f
    have h3 := HN.out.2.1
    have h4 := HTE.out
    rw [List.length_append, HLL.out.2.1]
    omega)
  clear hS5 hg5 hat5 hY HS34 HS4 HB4 HO4
  have c1 := HB5.out.cell 1
  have xlb := HB5.out.lt
  simp at c1
  go_wp2_with (at_builtin; refine wpList_append_slr rfl (.tmp 33) (.tmp 37) 29 rfl 5 j5 _ 1 1 Try.underlying29 si sz0 sz1 sz2 rfl (by decide) rfl HS5.out rfl HJ5.out (by intro u hu; obtain ⟨c, _, rfl⟩ := List.mem_map.1 hu; rfl) (by have := HXL.out; unfold maxLen; omega) (by have := HXL.out; omega) ?_)
  intro v6 w6 hS6 hg6 hat6
  have HO6 := Lib.hid (HO5.out.grown hg6 fun k hk => .inr (HW5.out k (by simpa using hk)))
  have HW6 := Lib.hid (show ∀ g, v6.ownBlock = some g → w.heap.size ≤ g from fun g hg => by
    rcases hat6 with e | e
    · rw [e] at hg; exact HW5.out g hg
    · rw [e] at hg
      injection hg with hg
      have := HO5.out.size
      omega)
  have hX : Y ++ J.take Q = X := by rw [← HXE.out]; unfold FD.left; rw [HM.out, HQ.out, HYE.out]
  have hXl : Y.length + Q = X.length := by rw [← hX, List.length_append, HQL.out]
  rw [← byV_append, hX, hXl] at hS6
  have HS6 := Lib.hid hS6
  have HLX := Lib.hid (show X.length ≤ 1073741824 from by rw [← hXl]; exact HXL.out)
  obtain ⟨a6, c6, hv6, _, _⟩ := hS6.shape
  subst hv6
  clear hS6 hg6 hat6 HS5 HB5 HO5 c1 xlb hX hXl HXL
  go_wp2_with (at_builtin; refine wpList_append_sls rfl (.const (.slice none 0 0)) (.tmp 40) 29 rfl 5 j5 _ 1 1 Try.underlying29 si sz0 sz1 sz2 rfl (by decide) rfl (Sl.nil _ _ _) rfl HS6.out (by intro u hu; obtain ⟨c, _, rfl⟩ := List.mem_map.1 hu; rfl) (by have := HLX.out; unfold maxLen; omega) (by have := HLX.out; omega) ?_)
  intro v7 w7 hS7 hg7 hat7
  have HO67 := Lib.hid (show Only [] w6 w7 from Only.grown (Only.refl [] w6) hg7 fun k hk => by cases hk)
  have HS7 := Lib.hid (show Sl w7 5 1 v7 X.length (byV X) by simpa using hS7)
  have HW7 := Lib.hid (show ∀ g, v7.ownBlock = some g → w6.heap.size ≤ g from fun g hg => by
    rcases hat7 with e | e
    · rw [e] at hg; cases hg
    · rw [e] at hg
      injection hg with hg
      omega)
  obtain ⟨a7, c7, hv7, _, _⟩ := hS7.shape
  subst hv7
  have HS67 := Lib.hid (HS6.out.only HO67.out (by simp))
  clear hS7 hg7 hat7
  go_wp2
  refine bodyPost_ret (results_tmp rfl _ _ _) rfl ⟨w7.heap.size, .slice a6 X.length c6, .slice a7 X.length c7, rfl, ?_, ⟨?_, ?_, ?_, ?_⟩, (HO6.out.trans HO67.out).alloc _, HW6.out, ?_, ?_⟩
  · have := (HO6.out.trans HO67.out).size
    exact this
  · exact Blk.new w7 _ _
  · exact HS67.out.alloc _
  · exact HS7.out.alloc _
  · exact ⟨Nat.le_refl _, Nat.zero_le _, HLX.out⟩
  · intro k hk
    have h1 := HW7.out k hk
    have h2 := HO6.out.size
    omega
  · intro k hk hk2
    have h1 := HW7.out k hk2
    have h2 := HS6.out.lt k hk
    omega
end
end Go.Proofs.Ythekilgolelomaa
