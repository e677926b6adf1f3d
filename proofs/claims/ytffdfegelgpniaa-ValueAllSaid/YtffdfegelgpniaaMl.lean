/-
  Twin: a value in memory of its own, a mark behind each list.
-/
import Derived.Test.YtffdfegelgpniaaZDh
set_option linter.unusedSimpArgs false
set_option linter.unusedVariables false
set_option linter.unusedSimpArgs false
set_option linter.unusedVariables false
namespace Go.Proofs.Ytffdfegelgpniaa
open Go.RowKit Go.Fl

abbrev markT : List Value := [.int .i64 (-5), .int .i64 0, .float .f64 0, .string ⟨#[109, 97, 114, 107]⟩, .slice none 0 0]
/-- A value, each of whose lists lies in a block of its own, with a mark behind it. -/
inductive TO (w : World) : V → List Value → List Nat → Prop
  | mk {k i : Int} {r : Nat} {t : ByteArray} {l : List V} {g off cap : Nat} (css : List (List Value)) (Ss : List (List Nat)) : (Lit.int .i64 k).wf = true → (Lit.int .i64 i).wf = true → r < 18446744073709551616 → t.size ≤ maxLen →
      css.length = l.length → Ss.length = l.length → Sl w 33 5 (.slice (some ⟨g, off, none⟩) (l.length + 1) cap) (l.length + 1) (css.flatten ++ markT) → (∀ j (h : j < l.length), TO w l[j] (css.getD j []) (Ss.getD j [])) →
      TO w (.mk k i r t l) [iv k, iv i, fv r, .string t, .slice (some ⟨g, off, none⟩) l.length cap] (g :: Ss.flatten)
theorem TO.keep {w w' : World} {v : V} {cs : List Value} {S : List Nat} (h : TO w v cs S) (hk : ∀ g ∈ S, w'.heap[g]? = w.heap[g]?) : TO w' v cs S := by
  induction h with
  | @mk k i r t l g off cap css Ss h1 h2 h3 h4 h5 h6 h7 h8 ih =>
    refine .mk css Ss h1 h2 h3 h4 h5 h6 (h7.keep fun g' hg => hk g' (by
      have : g = g' := by simpa [Value.ownBlock] using hg
      subst this
      exact List.mem_cons_self)) fun j hj => ih j hj fun g hg => hk g (List.mem_cons_of_mem _ (flatten_mem (by omega) hg))
theorem TO.lt {w : World} {v : V} {cs : List Value} {S : List Nat} (h : TO w v cs S) : ∀ g ∈ S, g < w.heap.size := by
  induction h with
  | mk css Ss h1 h2 h3 h4 h5 h6 h7 h8 ih =>
    intro g hg
    rcases List.mem_cons.1 hg with rfl | hg
    · exact h7.lt _ rfl
    · obtain ⟨S, hS, hg⟩ := List.mem_flatten.1 hg
      obtain ⟨j, hj, rfl⟩ := List.getElem_of_mem hS
      have := ih j (by omega) g
      rw [List.getD_eq_getElem?_getD, List.getElem?_eq_getElem hj] at this
      exact this hg
theorem TO.form {w : World} {v : V} {cs : List Value} {S : List Nat} (h : TO w v cs S) : ∃ (k i : Int) (r : Nat) (t : ByteArray) (a : Option Addr) (n cap : Nat), cs = [iv k, iv i, fv r, .string t, .slice a n cap] := by
  cases h with
  | mk => exact ⟨_, _, _, _, _, _, _, rfl⟩
theorem TO.ele : Ele TO := ⟨fun h => h.keep, fun h => h.lt, fun h => h.form⟩
theorem TO.len {w : World} {v : V} {cs : List Value} {S : List Nat} (h : TO w v cs S) : cs.length = 5 := by
  obtain ⟨_, _, _, _, _, _, _, rfl⟩ := h.form
  rfl
theorem TO.vis {w : World} {v : V} {cs : List Value} {S : List Nat} (h : TO w v cs S) : VIs w (· ∈ S) v cs := by
  induction h with
  | @mk k i r t l g off cap css Ss h1 h2 h3 h4 h5 h6 h7 h8 ih =>
    have hc5 : ∀ cs ∈ css, cs.length = 5 := fun cs hm => by
      obtain ⟨j, hj, rfl⟩ := List.getElem_of_mem hm
      have := (h8 j (by omega)).len
      rwa [List.getD_eq_getElem?_getD, List.getElem?_eq_getElem hj] at this
    obtain ⟨_, _, _, e, hg, hc1, hc2, hc, _⟩ := h7.form (by omega)
    injection e with e1 _ e3
    injection e1 with e1
    injection e1 with e1 e2
    subst e1
    subst e2
    subst e3
    have hfl : css.flatten.length = l.length * 5 := by
      have := h7.len
      simp at this
      simp
      omega
    refine .mk (fun j => css.getD j []) h1 h2 h3 h4 (by omega) hc2 (fun h0 => ?_) fun j hj => (ih j hj).mono fun g hg => List.mem_cons_of_mem _ (flatten_mem (by omega) hg)
    refine ⟨g, off, rfl, hg, List.mem_cons_self, fun j c u hj hu => ?_⟩
    have hlen := (h8 j hj).len
    have hc' : c < 5 := by
      by_cases hh : c < 5
      · exact hh
      · rw [List.getElem?_eq_none (by omega)] at hu; cases hu
    rw [Nat.add_assoc, hc (j * 5 + c) (by omega), List.getElem?_append_left (by omega), flatten_five css hc5 j c (by omega) hc']
    exact hu
/-- Behind an append to a list that is being built: what lies in it stays; the slice's block is apart. -/
theorem AC.tail {E : World → V → List Value → List Nat → Prop} {N : Nat} {w0 wr w7 : World} {acc : List V} {css : List (List Value)} {Ss : List (List Nat)} {sv v7 : Value} {o : Obj} (hE : Ele E) (h : AC E N w0 wr acc css Ss sv) (hN : N ≤ wr.heap.size) (hN0 : w0.heap.size ≤ N)
    (hg : (wr.alloc o).grownBy w7 sv.ownBlock) (hat : v7.ownBlock = sv.ownBlock ∨ v7.ownBlock = some (wr.heap.size + 1)) :
    (∀ j (h : j < acc.length), E w7 acc[j] (css.getD j []) (Ss.getD j [])) ∧ (v7.ownBlock.toList ++ Ss.flatten).Nodup ∧ (∀ g ∈ v7.ownBlock.toList ++ Ss.flatten, N ≤ g) ∧ Only [] w0 w7 := by
  have hsl := h.lt hE
  obtain ⟨d1, d2, d3⟩ := List.nodup_append.1 h.nodup
  have h46 : ∀ g, g < wr.heap.size → sv.ownBlock ≠ some g → w7.heap[g]? = wr.heap[g]? := fun g hg4 hne =>
    (hg.block g (by simp; omega) fun e => hne e.symm).trans (Below.heap_alloc wr _ g hg4)
  have hown : ∀ g, v7.ownBlock = some g → sv.ownBlock = some g ∨ (wr.heap.size + 1 = g) := fun g hg => by
    rcases hat with e | e
    · exact .inl (e ▸ hg)
    · rw [e] at hg; injection hg with hg; exact .inr hg
  refine ⟨fun j hj => ?_, ?_, fun g hg => ?_, ?_⟩
  · refine hE.keep (h.els j hj) fun g hg => ?_
    have hgl := hE.lt (h.els j hj) g hg
    have hsl2 := h.sl'
    exact h46 g hgl fun e => d3 g (by simp [e]) g (flatten_mem (by omega) hg) rfl
  · refine List.nodup_append.2 ⟨?_, d2, fun a ha b hb e => ?_⟩
    · cases v7.ownBlock with
      | none => exact List.nodup_nil
      | some g => simp
    · subst e
      rcases hown a (by simpa using ha) with e | e
      · exact d3 a (by simp [e]) a hb rfl
      · have := hsl a hb; omega
  · rcases List.mem_append.1 hg with hg | hg
    · rcases hown g (by simpa using hg) with e | e
      · exact h.ge g (List.mem_append_left _ (by simp [e]))
      · omega
    · exact h.ge g (List.mem_append_right _ hg)
  · exact (h.only.alloc _).grown hg fun k hk => .inr (by have := h.ge k (List.mem_append_left _ (by simp [hk])); omega)
def TwinOk (v : V) : Prop := ∀ (w : World) (F : Nat → Prop) (cs : List Value), VIs w F v cs → v.small →
  Calls Try.prog 25 #[.agg cs.toArray] w fun e w' => ∃ cs2 S, e = .returned (.agg cs2.toArray) ∧ TO w' v cs2 S ∧ S.Nodup ∧ (∀ g ∈ S, w.heap.size ≤ g) ∧ Only [] w w'
set_option maxRecDepth 100000 in
set_option maxHeartbeats 3200000 in
theorem twin_step (v : V) (H : ∀ x ∈ v.kids, TwinOk x) : TwinOk v := by
  intro w F cs hv hsm
  obtain ⟨j33, si, sz0, sz1, sz2⟩ := info_parts info33
  cases hv with
  | @mk k i r t l a cap css wk wi wr0 wt hlen hmax hcell hvs =>
  have hll : l.length ≤ 65536 := hsm.1
  have HSM := Lib.hid (Smalls.get hsm.2)
  have HC := Lib.hid hcell
  have HV := Lib.hid hvs
  have HH := Lib.hid (fun (j : Nat) (h : j < l.length) => H l[j] (show l[j] ∈ (V.mk k i r t l).kids from List.getElem_mem h))
  clear hcell hvs H hsm
  obtain ⟨w2, hw2⟩ : ∃ x : World, x = (w.alloc (.cells #[iv k, iv i, fv r, .string t, .slice a l.length cap] 33)).alloc (.cells zeroV.toArray 33) := ⟨_, rfl⟩
  have HW2 := Lib.hid hw2
  have HB2 := Lib.hid (show Blk w2 w.heap.size 33 #[iv k, iv i, fv r, .string t, .slice a l.length cap] by rw [hw2]; exact (Blk.new _ _ _).alloc _)
  have HZ2 := Lib.hid (show Blk w2 (w.heap.size + 1) 33 zeroV.toArray by
    rw [hw2]
    have h := Blk.new (w.alloc (.cells #[iv k, iv i, fv r, .string t, .slice a l.length cap] 33)) 33 zeroV.toArray
    rw [show (w.alloc (.cells #[iv k, iv i, fv r, .string t, .slice a l.length cap] 33)).heap.size = w.heap.size + 1 by simp] at h
    exact h)
  have HO2 := Lib.hid (show Only [] w w2 by rw [hw2]; exact ((Only.refl [] w).alloc _).alloc _)
  have HZ := Lib.hid (show w2.heap.size = w.heap.size + 2 by rw [hw2]; simp)
  clear hw2
  go_enter Try.func25, Try.ntmps25
  go_wp2
  rw [← HW2.out]
  go_loopw [3, 4] (fun v z wr => ∃ (n : Nat) (css2 : List (List Value)) (Ss : List (List Nat)), n ≤ l.length ∧ z = .int .i64 n ∧ Hid (AC TO (w.heap.size + 2) w2 wr (l.take n) css2 Ss v)) (fun _ z _ => l.length - (intOf z).toNat)
  case atStart => exact ⟨0, [], [], Nat.zero_le _, rfl, Lib.hid (AC.begin w2)⟩
  case round =>
    obtain ⟨n, css2, Ss, hn, rfl, HA⟩ := hrel
    obtain ⟨va, vc, hv, _, _⟩ := HA.out.sl.shape
    have hacl2 : (l.take n).length = n := by rw [List.length_take]; omega
    rw [hacl2] at hv
    subst hv
    have HBr := Lib.hid (HB2.out.only HA.out.only (by simp))
    have b4 := HBr.out.cell 4
    simp at b4
    have hwz := HA.out.only.size
    have hwz2 := HZ.out
    by_cases hnl : n < l.length
    · have hnz : (n : Int) < (l.length : Int) := by omega
      obtain ⟨g, off, rfl, hg, hFg, hcc⟩ := HC.out (by omega)
      have hv := HV.out n hnl
      obtain ⟨c0, c1, c2, c3, c4, c5, c6, hcs⟩ := hv.five
      have hx : ∀ c u, (css n)[c]? = some u → wr.cell? ⟨g, off + n * 5 + c, none⟩ = some u := fun c u hu => ((HO2.out.trans HA.out.only).cell (p := ⟨g, off + n * 5 + c, none⟩) hg (by simp)).trans (hcc n c u hnl hu)
      have x0 := hx 0 (iv c0) (by rw [hcs]; rfl)
      have x1 := hx 1 (iv c1) (by rw [hcs]; rfl)
      have x2 := hx 2 (fv c2) (by rw [hcs]; rfl)
      have x3 := hx 3 (.string c3) (by rw [hcs]; rfl)
      have x5 := hx 4 (.slice c4 c5 c6) (by rw [hcs]; rfl)
      rw [Nat.add_zero] at x0
      have HT := Lib.hid (HH.out n hnl wr F (css n) (hv.only0 (HO2.out.trans HA.out.only)) (HSM.out n hnl))
      rw [hcs] at HT
      have HE := Lib.hid (show l.take (n + 1) = l.take n ++ [l[n]] from List.take_succ_eq_append_getElem hnl)
      have HL2 := Lib.hid hacl2
      clear hx hcc hv hacl2
      go_wp2_with fail
      refine HT.out.mono ?_
      clear HT x0 x1 x2 x3 x5 b4
      rintro e w4 ⟨cs2, S, rfl, hvo, hnd, hge, ho⟩
      have hS4 := HA.out.sl.only ho (fun _ _ => by simp)
      rw [HL2.out] at hS4
      have hlen5 := hvo.len
      obtain ⟨d0, d1, d2, d3, d4, d5, d6, hds⟩ := hvo.form
      subst hds
      go_wp2_with (at_builtin; refine wpList_append_one (news := [iv d0, iv d1, fv d2, .string d3, .slice d4 d5 d6]) rfl (.tmp 12) (.tmp 19) 31 rfl 33 j33 _ 5 64 Try.underlying31 si sz0 sz1 sz2 rfl (by decide) rfl (hS4.alloc _) rfl (Blk.new _ _ _) rfl (by simp [Value.oneCell']) (by unfold maxLen; omega) (by omega) ?_)
      intro v7 w7 hS7 hg7 hat7
      have HA7 := Lib.hid (show AC TO (w.heap.size + 2) w2 w7 (l.take (n + 1)) (css2 ++ [[iv d0, iv d1, fv d2, .string d3, .slice d4 d5 d6]]) (Ss ++ [S]) v7 by
        rw [HE.out]
        exact HA.out.push TO.ele (by omega) (.inr trivial) ho hvo hnd hge (by omega) (by rw [HL2.out]; exact hS7) hg7 (by simpa [Value.ownBlock] using hat7))
      clear hS7 hg7 hat7 hvo hnd hge ho hS4 HA HE
      go_wp2
      go_roundw
      case measure => simp [intOf]; omega
      case rel => exact ⟨n + 1, _, _, by omega, by go_num, HA7⟩
    · obtain rfl : n = l.length := by omega
      rw [List.take_length] at HA hacl2
      have hS := HA.out.sl
      go_upto_region 6 with fail
      go_wp2_with (at_builtin; refine wpList_append_one (news := markT) rfl (.tmp 21) (.tmp 23) 31 rfl 33 j33 _ 5 64 Try.underlying31 si sz0 sz1 sz2 rfl (by decide) rfl (hS.alloc _) rfl (Blk.new _ _ _) rfl (by simp [Value.oneCell']) (by unfold maxLen; omega) (by omega) ?_)
      intro v7 w7 hS7 hg7 hat7
      obtain ⟨g7, o7, c7, hv7, hgl7, hc7, hm7, _, _⟩ := hS7.form (by omega)
      subst hv7
      obtain ⟨t1, t2, t3, t4⟩ := HA.out.tail (v7 := .slice (some ⟨g7, o7, none⟩) (l.length + 1) c7) TO.ele (by omega) (by omega) hg7 (by simpa [Value.ownBlock] using hat7)
      have hB7 : Blk w7 w.heap.size 33 #[iv k, iv i, fv r, .string t, .slice a l.length cap] := HB2.out.only t4 (by simp)
      have hZ7 : Blk w7 (w.heap.size + 1) 33 zeroV.toArray := HZ2.out.only t4 (by simp)
      have hge7 : w.heap.size + 2 ≤ g7 := t3 g7 (by simp [Value.ownBlock])
      obtain ⟨w8, hw8⟩ : ∃ x : World, x = w7.setCell ⟨w.heap.size, 4, none⟩ (.slice (some ⟨g7, o7, none⟩) l.length c7) := ⟨_, rfl⟩
      have HB8 := Lib.hid (show Blk w8 w.heap.size 33 #[iv k, iv i, fv r, .string t, .slice (some ⟨g7, o7, none⟩) l.length c7] by rw [hw8]; exact hB7.set_ 4 _)
      have HZ8 := Lib.hid (show Blk w8 (w.heap.size + 1) 33 zeroV.toArray by rw [hw8]; exact hZ7.far (by simp) _)
      have ho8 : Only [w.heap.size] w7 w8 := by rw [hw8]; exact (Only.refl _ _).setCell (.inl (by simp)) _
      have HO8 := Lib.hid (show Only [] w w8 from (HO2.out.trans t4).trans' ho8 fun i hi => .inr (by simp at hi; omega))
      have HTO := Lib.hid (show TO w8 (.mk k i r t l) [iv k, iv i, fv r, .string t, .slice (some ⟨g7, o7, none⟩) l.length c7] (g7 :: Ss.flatten) from
        .mk css2 Ss wk wi wr0 wt HA.out.cl HA.out.sl' (hS7.only ho8 fun g hg hm => by have : g7 = g := (by simpa [Value.ownBlock] using hg); simp at hm; omega) (fun j hj => (t1 j hj).keep fun g hg => ho8.block g ((t1 j hj).lt g hg) (by
          have := t3 g (List.mem_append_right _ (flatten_mem (by rw [HA.out.sl']; exact hj) hg))
          simp
          omega)))
      have HND := Lib.hid (show (g7 :: Ss.flatten).Nodup from t2)
      have HGE := Lib.hid (show ∀ g ∈ g7 :: Ss.flatten, w.heap.size + 2 ≤ g from t3)
      have y4 := hB7.cell 4
      have yf := hB7.frozen 4
      have yl := hB7.lt
      simp at y4
      have q0 := HB8.out.cell 0
      have q1 := HB8.out.cell 1
      have q2 := HB8.out.cell 2
      have q3 := HB8.out.cell 3
      have q4 := HB8.out.cell 4
      simp at q0 q1 q2 q3 q4
      have hz8 := HZ8.out
      have hcz : (l.length : Int) ≤ (c7 : Int) := by omega
      have hcn : l.length ≤ c7 := by omega
      clear hS7 hg7 hat7 t1 t2 t3 t4 hB7 hZ7 ho8 HA hS HB2 HZ2 HBr
      go_upto_region 7 with fail
      rw [← hw8]
      clear hw8 b4 y4 yf yl
      go_wp2_with (refine wpList_store_blk rfl 33 (.tmp 2) (.tmp 29) rfl [iv k, iv i, fv r, .string t, .slice (some ⟨g7, o7, none⟩) l.length c7] rfl rfl hz8 (by kernel_rfl) (by simp) (by simp [Value.oneCell']) ?_)
      intro w9 hB9 hO9
      have HB9 := Lib.hid hB9
      have HO9 := Lib.hid hO9
      clear hB9 hO9 hz8 q0 q1 q2 q3 q4
      go_wp2
      refine bodyPost_ret (results1 rfl (res_blk (cs := [iv k, iv i, fv r, .string t, .slice (some ⟨g7, o7, none⟩) l.length c7]) Try.underlying33 (by kernel_rfl) rfl HB9.out)) rfl ?_
      exact ⟨_, _, rfl, HTO.out.keep (fun g hg => HO9.out.block g (HTO.out.lt g hg) (by have := HGE.out g hg; simp; omega)), HND.out, (fun g hg => by have := HGE.out g hg; omega), HO8.out.trans' HO9.out fun i hi => .inr (by simp at hi; omega)⟩
theorem twin_ok (v : V) : TwinOk v := by
  refine V.rec (motive_1 := TwinOk) (motive_2 := fun l => ∀ x ∈ l, TwinOk x) ?_ ?_ ?_ v
  · intro k i r t l ih
    exact twin_step _ ih
  · intro x hx; cases hx
  · intro a l ha hl x hx
    rcases List.mem_cons.1 hx with rfl | hx
    · exact ha
    · exact hl x hx
end Go.Proofs.Ytffdfegelgpniaa
/-
  Kept: a twin is as the value, the marks too.
-/
set_option linter.unusedSimpArgs false
set_option linter.unusedVariables false
namespace Go.Proofs.Ytffdfegelgpniaa
open Go.RowKit Go.Fl

def KeptOk (v : V) : Prop := ∀ (w : World) (F : Nat → Prop) (cs ds : List Value) (S : List Nat), TO w v cs S → VIs w F v ds → Calls Try.prog 30 #[.agg cs.toArray, .agg ds.toArray] w fun e w' => e = .returned (.bool true) ∧ Only [] w w'
set_option maxRecDepth 100000 in
set_option maxHeartbeats 3200000 in
theorem kept_step (v : V) (H : ∀ x ∈ v.kids, KeptOk x) : KeptOk v := by
  intro w F cs ds S ht hv
  cases ht with
  | @mk k i r t l g off cap csA SsA wk wi wr0 wt hA1 hA2 hS hT =>
  cases hv with
  | @mk _ _ _ _ _ a2 cap2 css _ _ _ _ hlen hmax hcell hvs =>
  have HC := Lib.hid hcell
  have HV := Lib.hid hvs
  have HT := Lib.hid hT
  have HS := Lib.hid hS
  have HH := Lib.hid (fun (j : Nat) (h : j < l.length) => H l[j] (show l[j] ∈ (V.mk k i r t l).kids from List.getElem_mem h))
  have HC5 := Lib.hid (show ∀ cs ∈ csA, cs.length = 5 from fun cs hm => by
    obtain ⟨j, hj, rfl⟩ := List.getElem_of_mem hm
    have := (hT j (by omega)).len
    rwa [List.getD_eq_getElem?_getD, List.getElem?_eq_getElem hj] at this)
  have hfl : csA.flatten.length = l.length * 5 := by
    have := hS.len
    simp at this
    simp
    omega
  obtain ⟨_, _, _, e, hg, hc1, hc2, hc, _⟩ := hS.form (by omega)
  injection e with e1 _ e3
  injection e1 with e1
  injection e1 with e1 e2
  subst e1
  subst e2
  subst e3
  have HCE := Lib.hid hc
  have hlm : l.length + 1 ≤ maxLen := by omega
  unfold maxLen at hlm
  clear hcell hvs hT hS H hc wk wi wt
  obtain ⟨w0, hw0⟩ : ∃ x : World, x = (w.alloc (.cells #[iv k, iv i, fv r, .string t, .slice (some ⟨g, off, none⟩) l.length cap] 33)).alloc (.cells #[iv k, iv i, fv r, .string t, .slice a2 l.length cap2] 33) := ⟨_, rfl⟩
  have HW0 := Lib.hid hw0
  have HO0 := Lib.hid (show Only [] w w0 by rw [hw0]; exact ((Only.refl _ w).alloc _).alloc _)
  have HB1 := Lib.hid (show Blk w0 w.heap.size 33 #[iv k, iv i, fv r, .string t, .slice (some ⟨g, off, none⟩) l.length cap] by rw [hw0]; exact (Blk.new _ _ _).alloc _)
  have HB2 := Lib.hid (show Blk w0 (w.heap.size + 1) 33 #[iv k, iv i, fv r, .string t, .slice a2 l.length cap2] by rw [hw0]; have := Blk.new (w.alloc (.cells #[iv k, iv i, fv r, .string t, .slice (some ⟨g, off, none⟩) l.length cap] 33)) 33 #[iv k, iv i, fv r, .string t, .slice a2 l.length cap2]; simpa using this)
  clear hw0
  have hmk : w0.cell? ⟨g, off + l.length * 5 + 3, none⟩ = some (.string ⟨#[109, 97, 114, 107]⟩) := by
    refine (HO0.out.cell (p := ⟨g, off + l.length * 5 + 3, none⟩) hg (by simp)).trans ?_
    rw [Nat.add_assoc, HCE.out (l.length * 5 + 3) (by omega), List.getElem?_append_right (by omega), hfl, Nat.add_sub_cancel_left]
    rfl
  have hz1 : ((l.length : Int) != (l.length : Int)) = false := by simp
  have hz2 : (k != k) = false := by simp
  have hz3 : (i != i) = false := by simp
  have hcz : (l.length : Int) + 1 ≤ (cap : Int) := by omega
  have hcm : (0 : Int) ≤ (l.length : Int) + 1 := by omega
  go_enter Try.func30, Try.ntmps30
  go_wp2_with fail
  refine (bits_ok _ r r).mono ?_
  rw [decide_eq_true (rfl : r = r)]
  rintro e w1 ⟨rfl, rfl⟩
  rw [← HW0.out]
  have y0 := HB1.out.cell 3
  have y4 := HB1.out.cell 4
  have z0 := HB2.out.cell 3
  have z4 := HB2.out.cell 4
  simp at y0 y4 z0 z4
  go_wp2
  clear hmk hcz hcm
  go_loopw [6] (fun z wr => ∃ n : Nat, n ≤ l.length ∧ z = .int .i64 n ∧ Hid (Only [] w0 wr)) (fun z _ => l.length - (intOf z).toNat)
  case atStart => exact ⟨0, Nat.zero_le _, rfl, Lib.hid (Only.refl _ _)⟩
  case round =>
    obtain ⟨n, hn, rfl, HO⟩ := hrel
    have y4 := (HB1.out.only HO.out (by simp)).cell 4
    have z4 := (HB2.out.only HO.out (by simp)).cell 4
    simp at y4 z4
    by_cases hnl : n < l.length
    · have hnz : (n : Int) < (l.length : Int) := by omega
      obtain ⟨g2, off2, rfl, hg2, hFg2, hcc2⟩ := HC.out (by omega)
      have hv := (HT.out n hnl).keep (w' := wr.drew) fun g' hg' => (HO0.out.trans HO.out.drew).block g' ((HT.out n hnl).lt g' hg') (by simp)
      have hv2 := HV.out n hnl
      obtain ⟨c0, c1, c2, c3, c4, c5, c6, hcs⟩ := hv.form
      obtain ⟨d0, d1, d2, d3, d4, d5, d6, hds⟩ := hv2.five
      have hx : ∀ c u, c < 5 → (csA.getD n [])[c]? = some u → wr.cell? ⟨g, off + n * 5 + c, none⟩ = some u := fun c u hc hu => by
        refine ((HO0.out.trans HO.out).cell (p := ⟨g, off + n * 5 + c, none⟩) hg (by simp)).trans ?_
        show w.cell? ⟨g, off + n * 5 + c, none⟩ = some u
        rw [Nat.add_assoc, HCE.out (n * 5 + c) (by omega), List.getElem?_append_left (by omega), flatten_five csA HC5.out n c (by omega) hc]
        exact hu
      have hx2 : ∀ c u, (css n)[c]? = some u → wr.cell? ⟨g2, off2 + n * 5 + c, none⟩ = some u := fun c u hu => ((HO0.out.trans HO.out).cell (p := ⟨g2, off2 + n * 5 + c, none⟩) hg2 (by simp)).trans (hcc2 n c u hnl hu)
      have x0 := hx 0 (iv c0) (by omega) (by rw [hcs]; rfl)
      have x1 := hx 1 (iv c1) (by omega) (by rw [hcs]; rfl)
      have x2 := hx 2 (fv c2) (by omega) (by rw [hcs]; rfl)
      have x3 := hx 3 (.string c3) (by omega) (by rw [hcs]; rfl)
      have x4 := hx 4 (.slice c4 c5 c6) (by omega) (by rw [hcs]; rfl)
      have w0' := hx2 0 (iv d0) (by rw [hds]; rfl)
      have w1' := hx2 1 (iv d1) (by rw [hds]; rfl)
      have w2' := hx2 2 (fv d2) (by rw [hds]; rfl)
      have w3' := hx2 3 (.string d3) (by rw [hds]; rfl)
      have w4' := hx2 4 (.slice d4 d5 d6) (by rw [hds]; rfl)
      rw [Nat.add_zero] at x0 w0'
      have HQ := Lib.hid (HH.out n hnl wr.drew F (csA.getD n []) (css n) (SsA.getD n []) hv (hv2.only0 (HO0.out.trans HO.out.drew)))
      rw [hcs, hds] at HQ
      clear hx hx2 hcc2 HC hv hv2 hcs hds hfl
      go_wp2
      refine Lex.wp_region_text (by kernel_rfl) (by kernel_rfl) ?_
      go_wp2_with fail
      refine HQ.out.mono ?_
      clear HQ
      rintro e w2 ⟨rfl, ho2⟩
      have HO2 := Lib.hid ((HO.out.drew).trans ho2)
      clear ho2
      go_wp2
      refine Lex.sq_done (by rfl) ?_
      go_wp2
      go_roundw
      case measure => simp [intOf]; omega
      case rel => exact ⟨n + 1, by omega, by go_num, HO2⟩
    · obtain rfl : n = l.length := by omega
      clear HC
      go_wp2
      exact bodyPost_ret (results_tmp rfl _ _ _) rfl ⟨rfl, HO0.out.trans HO.out⟩
theorem kept_ok (v : V) : KeptOk v := by
  refine V.rec (motive_1 := KeptOk) (motive_2 := fun l => ∀ x ∈ l, KeptOk x) ?_ ?_ ?_ v
  · intro k i r t l ih
    exact kept_step _ ih
  · intro x hx; cases hx
  · intro a l ha hl x hx
    rcases List.mem_cons.1 hx with rfl | hx
    · exact ha
    · exact hl x hx
end Go.Proofs.Ytffdfegelgpniaa
