/-
  ClockAll: the document's After.
-/
import Derived.Test.YtjnhplgdbdneiaaGc
import Derived.Test.YtjnhplgdbdneiaaEc
set_option linter.unusedSimpArgs false
set_option linter.unusedVariables false
namespace Go.Proofs.Ytjnhplgdbdneiaa
open Go.RowKit Go.Fl

/-- Those from k on have been moved up by one. -/
def shf (L : List Tm) (x : Tm) (k : Nat) : List Tm := (L ++ [x]).take (k + 1) ++ L.drop k
theorem shf_len {L : List Tm} {x : Tm} {k : Nat} (hk : k ≤ L.length) : (shf L x k).length = L.length + 1 := by unfold shf; simp; omega
theorem shf_get {L : List Tm} {x : Tm} {k j : Nat} (hk : k ≤ L.length) : (shf L x k)[j]? = if j ≤ k then (L ++ [x])[j]? else L[j - 1]? := by
  unfold shf
  rw [List.getElem?_append, List.length_take, List.length_append, List.length_singleton, Nat.min_eq_left (by omega)]
  split
  · rw [if_pos (by omega), List.getElem?_take_of_lt (by omega)]
  · rw [if_neg (by omega), List.getElem?_drop]
    congr 1
    omega
theorem shf_top (L : List Tm) (x : Tm) : shf L x L.length = L ++ [x] := by
  unfold shf
  rw [List.take_of_length_le (by simp), List.drop_length, List.append_nil]
theorem shf_prev {L : List Tm} {x : Tm} {k : Nat} (hk : k < L.length) : (shf L x (k + 1)).getD k (0, 0) = L.getD k (0, 0) := by
  rw [List.getD_eq_getElem?_getD, shf_get (by omega), if_pos (by omega), List.getElem?_append_left hk, List.getD_eq_getElem?_getD]
theorem shf_step {L : List Tm} {x : Tm} {k : Nat} (hk : k < L.length) : (shf L x (k + 1)).set (k + 1) (L.getD k (0, 0)) = shf L x k := by
  apply List.ext_getElem?
  intro j
  rw [List.getElem?_set, shf_len (by omega), shf_get (by omega), shf_get (by omega)]
  by_cases e : k + 1 = j
  · subst e
    rw [if_pos rfl, if_pos (by omega), if_neg (by omega), Nat.add_sub_cancel, List.getElem?_eq_getElem hk, List.getD_eq_getElem?_getD, List.getElem?_eq_getElem hk]
    rfl
  · rw [if_neg e]
    by_cases h1 : j ≤ k
    · rw [if_pos (by omega), if_pos h1]
    · rw [if_neg (by omega), if_neg h1]
theorem shf_end {L : List Tm} {x : Tm} {k : Nat} (hk : k ≤ L.length) : (shf L x k).set k x = L.take k ++ x :: L.drop k := by
  apply List.ext_getElem?
  intro j
  rw [List.getElem?_set, shf_len hk, shf_get hk, List.getElem?_append (l₁ := L.take k), List.length_take, Nat.min_eq_left hk]
  by_cases e : k = j
  · subst e
    rw [if_pos rfl, if_pos (by omega), if_neg (by omega), Nat.sub_self]
    rfl
  · rw [if_neg e]
    by_cases h1 : j < k
    · rw [if_pos (by omega), if_pos h1, List.getElem?_append_left (by omega), List.getElem?_take_of_lt h1]
    · rw [if_neg (by omega), if_neg h1, show j - k = (j - k - 1) + 1 by omega, List.getElem?_cons_succ, List.getElem?_drop]
      congr 1
      omega
/-- What the document's After answers, and leaves. -/
def DAfterPost (w : World) (q now d : Nat) (n : Int) (L : List Tm) (v : Value) (e : Ending) (w' : World) : Prop :=
  if plB d = true then
    if L.length = 256 then e = .returned (.tuple #[iv 0, iv 9]) ∧ w' = w
    else e = .returned (.tuple #[iv (n + 1), iv 0]) ∧ ∃ v', DK w' q now (n + 1) (insT (n + 1, addW now (plV d)) L) v' ∧ GW w q v w' v'
  else e = .returned (.tuple #[iv 0, iv 1]) ∧ w' = w
/-- On the way: the new one lies in a block of its own. -/
structure SD (w wr : World) (q now : Nat) (n : Int) (M : List Tm) (v0 v : Value) (xb : Nat) (x : Tm) : Prop where
  ck : DK wr q now n M v
  bx : Blk wr xb 70 #[iv x.1, fv x.2]
  ne : v.ownBlock ≠ some xb
  gw : GW w q v0 wr v
  fr : w.heap.size ≤ xb
theorem addW_bits {now t : Nat} (hn : now < 9218868437227405312) (ht : t ≤ 9218868437227405312) : floatBits .add .f64 now t = some (addW now t) := by
  show Ieee.double.add now t = some (addW now t)
  unfold addW
  by_cases h : t = 9218868437227405312
  · rw [if_pos h, h]
    exact add_inf hn
  · rw [if_neg h]
    exact add_fin hn (by omega)
section
variable {w wr w3 w4 : World} {q now : Nat} {n : Int} {M L : List Tm} {v0 v v4 : Value} {xb : Nat} {x y : Tm}
theorem SD.onlyN (h : SD w wr q now n M v0 v xb x) (ho : Only [] wr w3) : SD w w3 q now n M v0 v xb x :=
  ⟨h.ck.only0 ho, h.bx.only ho (by simp), h.ne, h.gw.only0 ho, h.fr⟩
theorem SD.start {w2 : World} {cs : Array Value} (h : DK w2 q now n L v) (hg : GW w q v w2 v) (ho : Only [w2.heap.size] (w2.drew.alloc (.cells cs 70)) w3) (hB : Blk w3 w2.heap.size 70 #[iv x.1, fv x.2]) : SD w w3 q now n L v v w2.heap.size x := by
  have hk : ∀ g, g < w2.heap.size → w3.heap[g]? = w2.heap[g]? := fun g hg => (ho.block g (by simp; omega) (by simp; omega)).trans (Below.heap_alloc w2.drew _ g hg)
  have h3 : Only [] w2 w3 := ⟨ho.os, ho.tape, ho.output, by have := ho.size; simp at this; omega, fun g hg _ => hk g hg⟩
  exact ⟨h.only0 h3, hB, fun e => by have := h.sl.lt _ e; omega, hg.only0 h3, hg.only.size⟩
theorem SD.push (h : SD w wr q now n L v0 v xb x) (hx : x.2 ≤ 9218868437227405312) (hS : Sl w4 70 2 v4 (L.length + 1) (tcs L ++ [iv x.1, fv x.2])) (hg : ((wr.alloc (.cells #[iv x.1, fv x.2] 70)).drew).grownBy w4 v.ownBlock) (hat : v4.ownBlock = v.ownBlock ∨ v4.ownBlock = some (wr.heap.size + 1)) :
    Blk w4 q 54 #[fv now, v, iv n] ∧ SD w (w4.setCell ⟨q, 1, none⟩ v4) q now n (L ++ [x]) v0 v4 xb x := by
  have hb4 : Blk w4 q 54 #[fv now, v, iv n] := Go.Proofs.Ytjnhplgdbdneiaa.Blk.grown (h.ck.blk.alloc (.cells #[iv x.1, fv x.2] 70)).drew hg fun e => h.ck.ne e
  have hx4 : Blk w4 xb 70 #[iv x.1, fv x.2] := Go.Proofs.Ytjnhplgdbdneiaa.Blk.grown (h.bx.alloc (.cells #[iv x.1, fv x.2] 70)).drew hg h.ne
  have hq : v4.ownBlock ≠ some q := fun e => by
    rcases hat with e2 | e2
    · exact h.ck.ne (e2 ▸ e)
    · rw [e2] at e
      injection e with e
      have := h.ck.blk.lt
      omega
  have hxq : xb ≠ q := Blk.ne_ h.bx h.ck.blk (by decide)
  refine ⟨hb4, ⟨⟨?_, ?_, fun y hy => ?_⟩, hx4.far (by simpa using hxq) _, fun e => ?_, ⟨?_, fun g hg2 => ?_⟩, h.fr⟩⟩
  · have := hb4.set_ 1 v4
    simpa using this
  · rw [List.length_append, tcs_append]
    exact hS.far (by simpa using hq) _
  · rcases List.mem_append.1 hy with hy | hy
    · exact h.ck.le y hy
    · rw [List.mem_singleton.1 hy]
      exact hx
  · rcases hat with e2 | e2
    · exact h.ne (e2 ▸ e)
    · rw [e2] at e
      injection e with e
      have := h.bx.lt
      omega
  · have h1 : Only (q :: v0.ownBlock.toList) w ((wr.alloc (.cells #[iv x.1, fv x.2] 70)).drew) := (h.gw.only.alloc _).drew
    exact (h1.grown hg fun k hk => by
      rcases h.gw.own k hk with e | e
      · exact .inl (by simp [e])
      · exact .inr e).setCell (.inl (by simp)) _
  · rcases hat with e | e
    · exact h.gw.own g (e ▸ hg2)
    · rw [e] at hg2
      injection hg2 with hg2
      have := h.gw.only.size
      exact .inr (by omega)
theorem SD.put {g o m c i : Nat} {cur : Array Value} (h : SD w wr q now n M v0 (.slice (some ⟨g, o, none⟩) m c) xb x) (hm : M.length = m) (hi : i < m) (hy : y.2 ≤ 9218868437227405312) (hc : Blk wr g 70 cur)
    (hB : Blk w3 g 70 (cur.toList.take (o + i * 2) ++ iv y.1 :: fv y.2 :: cur.toList.drop (o + i * 2 + 2)).toArray) (ho : Only [g] wr w3) : SD w w3 q now n (M.set i y) v0 (.slice (some ⟨g, o, none⟩) m c) xb x := by
  have hq : q ≠ g := Blk.ne_ h.ck.blk hc (by decide)
  have hs := h.ck.sl
  rw [hm] at hs
  refine ⟨⟨h.ck.blk.only ho (by simpa using hq), ?_, fun z hz => ?_⟩, h.bx.only ho (by
    have := h.ne
    simp [Value.ownBlock] at this ⊢
    omega), h.ne, ⟨h.gw.only.trans' ho fun k hk => ?_, h.gw.own⟩, h.fr⟩
  · rw [List.length_set, hm]
    exact TSl.put hs hc (by omega) hm hB
  · rcases List.mem_or_eq_of_mem_set hz with hz | rfl
    · exact h.ck.le z hz
    · exact hy
  · have e : k = g := by simpa using hk
    subst e
    rcases h.gw.own k rfl with e | e
    · exact .inl (by simp [e])
    · exact .inr e
end
theorem cmp_rung {a b : Nat} (ha : a ≤ 9218868437227405312) (hb : b ≤ 9218868437227405312) : cmpI (keyR a) (keyR b) ≤ 0 ↔ a ≤ b := by
  rw [keyR_rung ha, keyR_rung hb]
  unfold cmpI
  repeat' split
  all_goals omega
theorem ins_take {L : List Tm} {x : Tm} {k : Nat} (hk : k ≤ L.length) (h1 : ∀ j, j < k → (L.getD j (0, 0)).2 ≤ x.2) (h2 : k < L.length → x.2 < (L.getD k (0, 0)).2) : insT x L = L.take k ++ x :: L.drop k := by
  have h := gone_eq (t := x.2) (A := L.take k) (B := L.drop k) (fun y hy => by
    obtain ⟨j, hj, rfl⟩ := List.mem_iff_getElem.1 hy
    have hj2 : j < k := by simp at hj; omega
    have := h1 j hj2
    rw [getD_getElem (by omega)] at this
    simpa using this) (fun y hy => by
    rw [List.head?_drop] at hy
    have hkl : k < L.length := by
      rcases Nat.lt_or_ge k L.length with h | h
      · exact h
      · rw [List.getElem?_eq_none h] at hy
        cases hy
    have := h2 hkl
    rw [List.getElem?_eq_getElem hkl] at hy
    rw [getD_getElem hkl] at this
    have e : L[k] = y := by simpa using hy
    rw [← e]
    exact this)
  rw [List.take_append_drop] at h
  unfold insT
  rw [← h.1, ← h.2]
set_option maxRecDepth 100000 in
set_option maxHeartbeats 6400000 in
theorem after18 (w : World) {q now d : Nat} {n : Int} {L : List Tm} {v : Value} (h : DK w q now n L v) (hnow : now < 9218868437227405312) (hd : d < 18446744073709551616) (hl : 0 ≤ n ∧ n < 4611686018427387904) (hlen : L.length ≤ 256) :
    Calls Try.prog 18 #[cp q, fv d] w (DAfterPost w q now d n L v) := by
  obtain ⟨j70, si7, sz70, sz71, sz72⟩ := info_parts info70
  have HP := Lib.hid (plain35 w d)
  have H := Lib.hid h
  have HN := Lib.hid hnow
  have HD := Lib.hid hd
  have HLL := Lib.hid hlen
  have x0 := h.blk.cell 0
  have x1 := h.blk.cell 1
  have x2 := h.blk.cell 2
  have xf := h.blk.frozen
  have xl := h.blk.lt
  simp at x0 x1 x2
  obtain ⟨a, cap, rfl, _⟩ := h.sl.shape
  have e1 : wrap64 (n + 1) = n + 1 := wrap_in (by omega)
  clear h hnow hd hl hlen
  cases hb : plB d
  · have HF := Lib.hid hb
    rw [hb] at HP
    clear hb
    go_enter Try.func18, Try.ntmps18
    go_wp2_with fail
    refine HP.out.mono ?_
    clear HP
    rintro e w1 ⟨rfl, rfl⟩
    go_wp2
    exact bodyPost_ret (results2 rfl (res_tmp rfl) (res_tmp rfl)) rfl (by unfold DAfterPost; rw [HF.out, if_neg (by simp)]; exact ⟨rfl, rfl⟩)
  have HF := Lib.hid hb
  rw [hb] at HP
  obtain ⟨N, hN⟩ : ∃ N, N = L.length := ⟨_, rfl⟩
  have HNE := Lib.hid hN
  have HNM := Lib.hid (show N ≤ 1048576 by have := HLL.out; omega)
  rw [← hN] at x1
  by_cases hm : N = 256
  · have HM := Lib.hid hm
    have hmz : ((N : Int) == 256) = true := by rw [hm]; rfl
    clear hb hm hN
    go_enter Try.func18, Try.ntmps18
    go_wp2_with fail
    refine HP.out.mono ?_
    clear HP
    rintro e w1 ⟨rfl, rfl⟩
    go_wp2
    exact bodyPost_ret (results2 rfl (res_tmp rfl) (res_tmp rfl)) rfl (by unfold DAfterPost; rw [HF.out, if_pos rfl, if_pos (by rw [← HNE.out]; exact HM.out)]; exact ⟨rfl, rfl⟩)
  have HM := Lib.hid hm
  have hmz : ((N : Int) == 256) = false := by rw [beq_eq_false_iff_ne]; omega
  have HLE := Lib.hid (plB_le HD.out hb).1
  have hadd := fun w => addW_run HN.out HLE.out w
  have HAW := Lib.hid (addW_le now (plV d))
  have HFB := Lib.hid (addW_bits HN.out HLE.out)
  have HPOST := Lib.hid (show ∀ e w', (e = .returned (.tuple #[iv (n + 1), iv 0]) ∧ ∃ v', DK w' q now (n + 1) (insT (n + 1, addW now (plV d)) L) v' ∧ GW w q (.slice a L.length cap) w' v') → DAfterPost w q now d n L (.slice a L.length cap) e w' from fun e w' hh => by
    unfold DAfterPost
    rw [HF.out, if_pos rfl, if_neg (by rw [← HNE.out]; exact HM.out)]
    exact hh)
  generalize DAfterPost w q now d n L (.slice a L.length cap) = POST at *
  clear hb hm hN
  go_enter Try.func18, Try.ntmps18
  go_wp2_with fail
  refine HP.out.mono ?_
  clear HP
  rintro e w1 ⟨rfl, rfl⟩
  have HC2 := Lib.hid (show DK (w1.setCell ⟨q, 2, none⟩ (.int .i64 (n + 1))) q now (n + 1) L (.slice a L.length cap) from ⟨by have := H.out.blk.set_ 2 (iv (n + 1)); simpa using this, H.out.sl.far (by have := H.out.ne; simpa using this) _, H.out.le⟩)
  have HO2 := Lib.hid (show GW w1 q (.slice a L.length cap) (w1.setCell ⟨q, 2, none⟩ (.int .i64 (n + 1))) (.slice a L.length cap) from ⟨(Only.refl _ _).setCell (.inl (by simp)) _, fun g hg => .inl hg⟩)
  go_wp2
  generalize w1.setCell ⟨q, 2, none⟩ (.int .i64 (n + 1)) = w2 at *
  have x0 := HC2.out.blk.cell 0
  have x1 := HC2.out.blk.cell 1
  have x2 := HC2.out.blk.cell 2
  have xl := HC2.out.blk.lt
  simp at x0 x1 x2
  clear xf hmz
  refine Lex.wp_region_text (by kernel_rfl) (by kernel_rfl) ?_
  go_wp2_with (refine wpList_store_blk (g := w2.heap.size) (k := 0) rfl 70 (.tmp 8) (.tmp 41) rfl [iv (n + 1), fv (addW now (plV d))] rfl rfl (Blk.new w2.drew 70 #[iv 0, fv 0]) (by kernel_rfl) (by simp) (by simp [Value.oneCell']) ?_)
  intro w3 hB3 hO3
  have HS3 := Lib.hid (SD.start (x := (n + 1, addW now (plV d))) HC2.out HO2.out hO3 (by simpa using hB3))
  clear hB3 hO3 x0 x1 x2 xl hadd HC2 HO2
  generalize w2.heap.size = xb at *
  obtain ⟨t, ht⟩ : ∃ t, addW now (plV d) = t := ⟨_, rfl⟩
  rw [ht] at HS3 HAW HPOST ⊢
  obtain ⟨n1, hn1⟩ : ∃ n1, n + 1 = n1 := ⟨_, rfl⟩
  rw [hn1] at HS3 HPOST e1 ⊢
  clear hn1 ht
  go_wp2
  refine Lex.sq_done (by simp [Lex.plainAll, Lex.dyn, Lex.okPair, Lex.fPair, Lex.plainV, Lex.plainC, Act.eval, HFB.out]) ?_
  go_wp2
  clear e1
  go_loopw [9] (fun z wr => ∃ k : Nat, z = .int .i64 k ∧ Hid (k ≤ N) ∧ Hid (SD w1 wr q now n1 L (.slice a L.length cap) (.slice a L.length cap) xb (n1, t)) ∧ Hid (∀ j, j < k → (L.getD j (0, 0)).2 ≤ t)) (fun z _ => N - (intOf z).toNat)
  case atStart => exact ⟨0, rfl, Lib.hid (Nat.zero_le _), HS3, Lib.hid (fun j h => absurd h (Nat.not_lt_zero _))⟩
  case round =>
    obtain ⟨k, rfl, HK, HI, HX⟩ := hrel
    have x1 := HI.out.ck.blk.cell 1
    have xl := HI.out.ck.blk.lt
    have b1 := HI.out.bx.cell 1
    have bl := HI.out.bx.lt
    simp at x1 b1
    rw [← HNE.out] at x1
    by_cases hkl : k < N
    case neg =>
      have hkz : ¬ (k : Int) < (N : Int) := by omega
      have HE := Lib.hid (ins_take (L := L) (x := (n1, t)) (k := k) (HNE.out ▸ HK.out) HX.out (fun h => absurd (HNE.out.symm ▸ h) hkl))
      clear hkl b1
      go_wp2
      refine Lex.wp_region_text (by kernel_rfl) (by kernel_rfl) ?_
      go_wp2
      clear x1 xl bl
      refine Lex.sq_done (by rfl) ?_
      go_wp2
      clear hkz
      have HI2 := Lib.hid (HI.out.onlyN (Only.refl [] _).drew)
      clear HI
      generalize wr.drew = w5 at *
      have x1 := HI2.out.ck.blk.cell 1
      have xl := HI2.out.ck.blk.lt
      have b0 := HI2.out.bx.cell 0
      have b1 := HI2.out.bx.cell 1
      have bl := HI2.out.bx.lt
      simp at x1 b0 b1
      rw [← HNE.out] at x1
      have HSL := Lib.hid (show Sl w5 70 2 (.slice a N cap) N (tcs L) by rw [HNE.out]; exact HI2.out.ck.sl)
      refine Lex.wp_region_text (by kernel_rfl) (by kernel_rfl) ?_
      go_wp2_with (at_builtin; refine wpList_append_sls rfl (.tmp 69) (.tmp 71) 39 rfl 70 j70 _ 2 16 Try.underlying39 si7 sz70 sz71 sz72 rfl (by decide) rfl (HSL.out.drew.alloc _) rfl (sl_two (Blk.new _ _ _)) (by simp [Value.oneCell']) (by have := HLL.out; have := HNE.out; unfold maxLen; omega) (by have := HLL.out; have := HNE.out; omega) ?_)
      intro v6 w6 hS6 hg6 hat6
      obtain ⟨N1, hN1⟩ : ∃ N1, N1 = N + 1 := ⟨_, rfl⟩
      have HN1 := Lib.hid hN1
      have hob : (Value.slice a L.length cap).ownBlock = (Value.slice a N cap).ownBlock := by rw [HNE.out]
      have hat7 : v6.ownBlock = (Value.slice a L.length cap).ownBlock ∨ v6.ownBlock = some (w5.heap.size + 1) := by
        rcases hat6 with e | e
        · exact .inl (e.trans hob.symm)
        · exact .inr (by first | (rw [e]; done) | (rw [e]; simp))
      have hg7 : ((w5.alloc (.cells #[iv n1, fv t] 70)).drew).grownBy w6 (Value.slice a L.length cap).ownBlock := by rw [hob]; exact hg6
      have hS7 : Sl w6 70 2 v6 (L.length + 1) (tcs L ++ [iv n1, fv t]) := by rw [← HNE.out]; exact hS6
      obtain ⟨q1, q2⟩ := HI2.out.push (x := (n1, t)) HAW.out hS7 hg7 hat7
      rw [← hN1] at hS6
      have HP6 := Lib.hid q2
      obtain ⟨g6, o6, c6, hv6, hfm6⟩ := hS6.form (by omega)
      have HC6 := Lib.hid (show N1 ≤ c6 from hfm6.2.1)
      clear hfm6 hS6 hg6 hat6 hS7 hg7 hat7 hob x1 xl b0 b1 bl q2 hN1
      subst hv6
      have x1 := q1.cell 1
      have xf := q1.frozen
      have xl := q1.lt
      simp at x1
      clear q1 HI2 HSL
      go_wp2
      refine Lex.sq_done (by rfl) ?_
      generalize w6.setCell ⟨q, 1, none⟩ (.slice (some ⟨g6, o6, none⟩) N1 c6) = w7 at *
      clear x1 xf xl
      have x1 := HP6.out.ck.blk.cell 1
      have xl := HP6.out.ck.blk.lt
      simp at x1
      have e2 : wrap64 ((N1 : Int) - 1) = (N : Int) := wrap_to (by have := HN1.out; have := HNE.out; have := HLL.out; omega) (by have := HN1.out; omega)
      go_wp2
      try rw [e2]
      clear x1 xl e2
      have HKN := Lib.hid (show k ≤ N from HK.out)
      clear HX
      go_loopw [10] (fun z wr => ∃ j : Nat, z = .int .i64 j ∧ Hid (k ≤ j ∧ j ≤ N) ∧ Hid (SD w1 wr q now n1 (shf L (n1, t) j) (.slice a L.length cap) (.slice (some ⟨g6, o6, none⟩) N1 c6) xb (n1, t))) (fun z _ => (intOf z).toNat)
      case atStart => exact ⟨N, rfl, Lib.hid ⟨HKN.out, Nat.le_refl _⟩, Lib.hid (by rw [HNE.out, shf_top]; exact HP6.out)⟩
      case round =>
        obtain ⟨j, rfl, HJ, HI⟩ := hrel
        have x1 := HI.out.ck.blk.cell 1
        have xl := HI.out.ck.blk.lt
        have b0 := HI.out.bx.cell 0
        have b1 := HI.out.bx.cell 1
        have bl := HI.out.bx.lt
        simp at x1 b0 b1
        have HSF := Lib.hid (show (shf L (n1, t) j).length = N1 by rw [shf_len (by have := HJ.out; have := HNE.out; omega), ← HNE.out, HN1.out])
        have HSL := Lib.hid (show Sl wr 70 2 (.slice (some ⟨g6, o6, none⟩) N1 c6) N1 (tcs (shf L (n1, t) j)) by have := HI.out.ck.sl; rw [HSF.out] at this; exact this)
        obtain ⟨cur, hB, hfit⟩ := TSl.fit HSL.out
        have HB := Lib.hid hB
        have HFIT := Lib.hid (show o6 + N1 * 2 ≤ cur.size from hfit)
        clear hB hfit
        by_cases hjk : k < j
        · obtain ⟨p, hp⟩ : ∃ p, p = j - 1 := ⟨_, rfl⟩
          have HPJ := Lib.hid (show j = p + 1 ∧ p < N ∧ p < j by have := HJ.out; omega)
          have e3 : wrap64 ((j : Int) - 1) = (p : Int) := wrap_to (by have := HJ.out; have := HNE.out; have := HLL.out; omega) (by omega)
          have hjkz : (k : Int) < (j : Int) := by omega
          have hjN : (j : Int) < (N1 : Int) := by have := HJ.out; have := HN1.out; omega
          have hpN : (p : Int) < (N1 : Int) := by omega
          obtain ⟨y0, y1⟩ := TSl.at_ HSL.out (i := p) (by rw [HSF.out]; have := HPJ.out; have := HN1.out; omega)
          rw [show (shf L (n1, t) j).getD p (0, 0) = L.getD p (0, 0) by rw [HPJ.out.1]; exact shf_prev (by have := HPJ.out; have := HNE.out; omega)] at y0 y1
          have HYL := Lib.hid (show (L.getD p (0, 0)).2 ≤ 9218868437227405312 by
            have h1 : p < L.length := by have := HPJ.out; have := HNE.out; omega
            have h2 : p < (shf L (n1, t) j).length := by rw [HSF.out]; have := HPJ.out; have := HN1.out; omega
            have h3 := HI.out.ck.le _ (List.getElem_mem h2)
            rw [← getD_getElem h2, show (shf L (n1, t) j).getD p (0, 0) = L.getD p (0, 0) by rw [HPJ.out.1]; exact shf_prev h1] at h3
            exact h3)
          have HST := Lib.hid (show (shf L (n1, t) j).set j (L.getD p (0, 0)) = shf L (n1, t) p by rw [HPJ.out.1]; exact shf_step (by have := HPJ.out; have := HNE.out; omega))
          generalize L.getD p (0, 0) = y at *
          have HJN := Lib.hid (show j < N1 by omega)
          clear hp hjk b0 b1 bl
          go_wp2
          refine Lex.wp_region_text (by kernel_rfl) (by kernel_rfl) ?_
          go_wp2_with (refine wpList_store_blk (g := g6) (k := o6 + j * 2) rfl 70 (.tmp 99) (.tmp 98) rfl [iv y.1, fv y.2] rfl rfl HB.out.drew (by kernel_rfl) (by have := HFIT.out; have := HJN.out; simp; omega) (by simp [Value.oneCell']) ?_)
          intro w9 hB9 hO9
          have HN9 := Lib.hid ((HI.out.onlyN (Only.refl [] _).drew).put HSF.out HJN.out HYL.out HB.out.drew hB9 hO9)
          clear hB9 hO9 HB y0 y1 x1 xl
          go_wp2
          refine Lex.sq_done (by rfl) ?_
          go_wp2
          go_roundw
          case measure => (try rw [e3]); exact (show p < j from HPJ.out.2.2)
          case rel => exact ⟨p, by first | rfl | rw [e3], Lib.hid (by have := HPJ.out; have := HJ.out; omega), Lib.hid (by rw [← HST.out]; exact HN9.out)⟩
        · have hjkz : ¬ (k : Int) < (j : Int) := by omega
          obtain rfl : j = k := by have := HJ.out; omega
          have hjN : (j : Int) < (N1 : Int) := by have := HJ.out; have := HN1.out; omega
          have HJN := Lib.hid (show j < N1 by omega)
          clear hjk
          go_wp2
          refine Lex.wp_region_text (by kernel_rfl) (by kernel_rfl) ?_
          go_wp2_with (refine wpList_store_blk (g := g6) (k := o6 + j * 2) rfl 70 (.tmp 106) (.tmp 105) rfl [iv n1, fv t] rfl rfl HB.out.drew (by kernel_rfl) (by have := HFIT.out; have := HJN.out; simp; omega) (by simp [Value.oneCell']) ?_)
          intro w9 hB9 hO9
          have HN9 := Lib.hid ((HI.out.onlyN (Only.refl [] _).drew).put (y := (n1, t)) HSF.out HJN.out HAW.out HB.out.drew hB9 hO9)
          clear hB9 hO9 HB x1 xl b0 b1 bl
          go_wp2
          refine Lex.sq_done (by rfl) ?_
          have z2 := HN9.out.ck.blk.cell 2
          have zl := HN9.out.ck.blk.lt
          simp at z2
          go_wp2
          exact HPOST.out _ _ ⟨rfl, _, by
            have := HN9.out.ck
            rw [shf_end (HNE.out ▸ HKN.out), ← HE.out] at this
            exact this, HN9.out.gw⟩
    have hkz : (k : Int) < (N : Int) := by omega
    have hka : k < L.length := by have := HNE.out; omega
    obtain ⟨g, o, c', hv, hfm⟩ := HI.out.ck.sl.form (by omega)
    injection hv with hva hvl hvc
    subst hva
    subst hvc
    clear hvl hfm
    obtain ⟨y0, y1⟩ := TSl.at_ HI.out.ck.sl hka
    obtain ⟨y, hy⟩ : ∃ y, L.getD k (0, 0) = y := ⟨_, rfl⟩
    have HY := Lib.hid hy
    have HYL := Lib.hid (show y.2 ≤ 9218868437227405312 by rw [← hy, getD_getElem hka]; exact HI.out.ck.le _ (List.getElem_mem hka))
    rw [hy] at y0 y1
    have HKA := Lib.hid hka
    have HKL := Lib.hid hkl
    clear hy y0 hka
    have HQ := Lib.hid (fun w => cmp36 w y.2 t (by have := HYL.out; omega) (by have := HAW.out; omega))
    have HCR := Lib.hid (cmp_rung HYL.out HAW.out)
    obtain ⟨z, hz⟩ : ∃ z, cmpI (keyR y.2) (keyR t) = z := ⟨_, rfl⟩
    rw [hz] at HQ HCR
    clear hz hkl
    by_cases hz : z ≤ 0
    · have HLE2 := Lib.hid (HCR.out.1 hz)
      have e1 : wrap64 ((k : Int) + 1) = ((k + 1 : Nat) : Int) := wrap_sm HNM.out HKL.out
      go_wp2
      refine Lex.wp_region_text (by kernel_rfl) (by kernel_rfl) ?_
      go_wp2_with fail
      refine (HQ.out _).mono ?_
      clear HQ
      rintro e w4 ⟨rfl, rfl⟩
      go_wp2
      refine Lex.sq_done (by rfl) ?_
      go_wp2
      go_roundw
      case measure => (try rw [e1]); exact meas (Nat.sub_lt_sub_left HKL.out (Nat.lt_succ_self k))
      case rel => exact ⟨k + 1, by first | rfl | rw [e1], Lib.hid HKL.out, Lib.hid (HI.out.onlyN (Only.refl _ _).drew), Lib.hid (fun j hj => by
        rcases Nat.lt_succ_iff_lt_or_eq.1 hj with hj | hj
        · exact HX.out j hj
        · subst hj; rw [HY.out]; exact HLE2.out)⟩
    · have HE := Lib.hid (ins_take (L := L) (x := (n1, t)) (k := k) (HNE.out ▸ HK.out) HX.out (fun _ => by
        rw [HY.out]
        exact Nat.lt_of_not_le (fun h => hz (HCR.out.2 h))))
      go_wp2
      refine Lex.wp_region_text (by kernel_rfl) (by kernel_rfl) ?_
      go_wp2_with fail
      refine (HQ.out _).mono ?_
      clear HQ
      rintro e w4 ⟨rfl, rfl⟩
      clear x1 xl b1 bl y1
      go_wp2
      refine Lex.sq_done (by rfl) ?_
      go_wp2
      clear hz hkz HKA HKL
      have HI2 := Lib.hid (HI.out.onlyN (Only.refl [] _).drew)
      clear HI
      generalize wr.drew = w5 at *
      have x1 := HI2.out.ck.blk.cell 1
      have xl := HI2.out.ck.blk.lt
      have b0 := HI2.out.bx.cell 0
      have b1 := HI2.out.bx.cell 1
      have bl := HI2.out.bx.lt
      simp at x1 b0 b1
      rw [← HNE.out] at x1
      have HSL := Lib.hid (show Sl w5 70 2 (.slice (some ⟨g, o, none⟩) N cap) N (tcs L) by rw [HNE.out]; exact HI2.out.ck.sl)
      refine Lex.wp_region_text (by kernel_rfl) (by kernel_rfl) ?_
      go_wp2_with (at_builtin; refine wpList_append_sls rfl (.tmp 69) (.tmp 71) 39 rfl 70 j70 _ 2 16 Try.underlying39 si7 sz70 sz71 sz72 rfl (by decide) rfl (HSL.out.drew.alloc _) rfl (sl_two (Blk.new _ _ _)) (by simp [Value.oneCell']) (by have := HLL.out; have := HNE.out; unfold maxLen; omega) (by have := HLL.out; have := HNE.out; omega) ?_)
      intro v6 w6 hS6 hg6 hat6
      obtain ⟨N1, hN1⟩ : ∃ N1, N1 = N + 1 := ⟨_, rfl⟩
      have HN1 := Lib.hid hN1
      have hob : (Value.slice (some ⟨g, o, none⟩) L.length cap).ownBlock = (Value.slice (some ⟨g, o, none⟩) N cap).ownBlock := by rw [HNE.out]
      have hat7 : v6.ownBlock = (Value.slice (some ⟨g, o, none⟩) L.length cap).ownBlock ∨ v6.ownBlock = some (w5.heap.size + 1) := by
        rcases hat6 with e | e
        · exact .inl (e.trans hob.symm)
        · exact .inr (by first | (rw [e]; done) | (rw [e]; simp))
      have hg7 : ((w5.alloc (.cells #[iv n1, fv t] 70)).drew).grownBy w6 (Value.slice (some ⟨g, o, none⟩) L.length cap).ownBlock := by rw [hob]; exact hg6
      have hS7 : Sl w6 70 2 v6 (L.length + 1) (tcs L ++ [iv n1, fv t]) := by rw [← HNE.out]; exact hS6
      obtain ⟨q1, q2⟩ := HI2.out.push (x := (n1, t)) HAW.out hS7 hg7 hat7
      rw [← hN1] at hS6
      have HP6 := Lib.hid q2
      obtain ⟨g6, o6, c6, hv6, hfm6⟩ := hS6.form (by omega)
      have HC6 := Lib.hid (show N1 ≤ c6 from hfm6.2.1)
      clear hfm6 hS6 hg6 hat6 hS7 hg7 hat7 hob x1 xl b0 b1 bl q2 hN1
      subst hv6
      have x1 := q1.cell 1
      have xf := q1.frozen
      have xl := q1.lt
      simp at x1
      clear q1 HI2 HSL
      go_wp2
      refine Lex.sq_done (by rfl) ?_
      generalize w6.setCell ⟨q, 1, none⟩ (.slice (some ⟨g6, o6, none⟩) N1 c6) = w7 at *
      clear x1 xf xl
      have x1 := HP6.out.ck.blk.cell 1
      have xl := HP6.out.ck.blk.lt
      simp at x1
      have e2 : wrap64 ((N1 : Int) - 1) = (N : Int) := wrap_to (by have := HN1.out; have := HNE.out; have := HLL.out; omega) (by have := HN1.out; omega)
      go_wp2
      try rw [e2]
      clear x1 xl e2
      have HKN := Lib.hid (show k ≤ N from HK.out)
      clear HX
      go_loopw [10] (fun z wr => ∃ j : Nat, z = .int .i64 j ∧ Hid (k ≤ j ∧ j ≤ N) ∧ Hid (SD w1 wr q now n1 (shf L (n1, t) j) (.slice (some ⟨g, o, none⟩) L.length cap) (.slice (some ⟨g6, o6, none⟩) N1 c6) xb (n1, t))) (fun z _ => (intOf z).toNat)
      case atStart => exact ⟨N, rfl, Lib.hid ⟨HKN.out, Nat.le_refl _⟩, Lib.hid (by rw [HNE.out, shf_top]; exact HP6.out)⟩
      case round =>
        obtain ⟨j, rfl, HJ, HI⟩ := hrel
        have x1 := HI.out.ck.blk.cell 1
        have xl := HI.out.ck.blk.lt
        have b0 := HI.out.bx.cell 0
        have b1 := HI.out.bx.cell 1
        have bl := HI.out.bx.lt
        simp at x1 b0 b1
        have HSF := Lib.hid (show (shf L (n1, t) j).length = N1 by rw [shf_len (by have := HJ.out; have := HNE.out; omega), ← HNE.out, HN1.out])
        have HSL := Lib.hid (show Sl wr 70 2 (.slice (some ⟨g6, o6, none⟩) N1 c6) N1 (tcs (shf L (n1, t) j)) by have := HI.out.ck.sl; rw [HSF.out] at this; exact this)
        obtain ⟨cur, hB, hfit⟩ := TSl.fit HSL.out
        have HB := Lib.hid hB
        have HFIT := Lib.hid (show o6 + N1 * 2 ≤ cur.size from hfit)
        clear hB hfit
        by_cases hjk : k < j
        · obtain ⟨p, hp⟩ : ∃ p, p = j - 1 := ⟨_, rfl⟩
          have HPJ := Lib.hid (show j = p + 1 ∧ p < N ∧ p < j by have := HJ.out; omega)
          have e3 : wrap64 ((j : Int) - 1) = (p : Int) := wrap_to (by have := HJ.out; have := HNE.out; have := HLL.out; omega) (by omega)
          have hjkz : (k : Int) < (j : Int) := by omega
          have hjN : (j : Int) < (N1 : Int) := by have := HJ.out; have := HN1.out; omega
          have hpN : (p : Int) < (N1 : Int) := by omega
          obtain ⟨y0, y1⟩ := TSl.at_ HSL.out (i := p) (by rw [HSF.out]; have := HPJ.out; have := HN1.out; omega)
          rw [show (shf L (n1, t) j).getD p (0, 0) = L.getD p (0, 0) by rw [HPJ.out.1]; exact shf_prev (by have := HPJ.out; have := HNE.out; omega)] at y0 y1
          have HYL := Lib.hid (show (L.getD p (0, 0)).2 ≤ 9218868437227405312 by
            have h1 : p < L.length := by have := HPJ.out; have := HNE.out; omega
            have h2 : p < (shf L (n1, t) j).length := by rw [HSF.out]; have := HPJ.out; have := HN1.out; omega
            have h3 := HI.out.ck.le _ (List.getElem_mem h2)
            rw [← getD_getElem h2, show (shf L (n1, t) j).getD p (0, 0) = L.getD p (0, 0) by rw [HPJ.out.1]; exact shf_prev h1] at h3
            exact h3)
          have HST := Lib.hid (show (shf L (n1, t) j).set j (L.getD p (0, 0)) = shf L (n1, t) p by rw [HPJ.out.1]; exact shf_step (by have := HPJ.out; have := HNE.out; omega))
          generalize L.getD p (0, 0) = y at *
          have HJN := Lib.hid (show j < N1 by omega)
          clear hp hjk b0 b1 bl
          go_wp2
          refine Lex.wp_region_text (by kernel_rfl) (by kernel_rfl) ?_
          go_wp2_with (refine wpList_store_blk (g := g6) (k := o6 + j * 2) rfl 70 (.tmp 99) (.tmp 98) rfl [iv y.1, fv y.2] rfl rfl HB.out.drew (by kernel_rfl) (by have := HFIT.out; have := HJN.out; simp; omega) (by simp [Value.oneCell']) ?_)
          intro w9 hB9 hO9
          have HN9 := Lib.hid ((HI.out.onlyN (Only.refl [] _).drew).put HSF.out HJN.out HYL.out HB.out.drew hB9 hO9)
          clear hB9 hO9 HB y0 y1 x1 xl
          go_wp2
          refine Lex.sq_done (by rfl) ?_
          go_wp2
          go_roundw
          case measure => (try rw [e3]); exact (show p < j from HPJ.out.2.2)
          case rel => exact ⟨p, by first | rfl | rw [e3], Lib.hid (by have := HPJ.out; have := HJ.out; omega), Lib.hid (by rw [← HST.out]; exact HN9.out)⟩
        · have hjkz : ¬ (k : Int) < (j : Int) := by omega
          obtain rfl : j = k := by have := HJ.out; omega
          have hjN : (j : Int) < (N1 : Int) := by have := HJ.out; have := HN1.out; omega
          have HJN := Lib.hid (show j < N1 by omega)
          clear hjk
          go_wp2
          refine Lex.wp_region_text (by kernel_rfl) (by kernel_rfl) ?_
          go_wp2_with (refine wpList_store_blk (g := g6) (k := o6 + j * 2) rfl 70 (.tmp 106) (.tmp 105) rfl [iv n1, fv t] rfl rfl HB.out.drew (by kernel_rfl) (by have := HFIT.out; have := HJN.out; simp; omega) (by simp [Value.oneCell']) ?_)
          intro w9 hB9 hO9
          have HN9 := Lib.hid ((HI.out.onlyN (Only.refl [] _).drew).put (y := (n1, t)) HSF.out HJN.out HAW.out HB.out.drew hB9 hO9)
          clear hB9 hO9 HB x1 xl b0 b1 bl
          go_wp2
          refine Lex.sq_done (by rfl) ?_
          have z2 := HN9.out.ck.blk.cell 2
          have zl := HN9.out.ck.blk.lt
          simp at z2
          go_wp2
          exact HPOST.out _ _ ⟨rfl, _, by
            have := HN9.out.ck
            rw [shf_end (HNE.out ▸ HKN.out), ← HE.out] at this
            exact this, HN9.out.gw⟩
end Go.Proofs.Ytjnhplgdbdneiaa
