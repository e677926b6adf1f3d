/-
  The document's copy; a list that is built by appending to a local slice.
-/
import Derived.Test.YtffdfegelgpniaaZDe
import Derived.Test.YtffdfegelgpniaaMi
import Derived.Test.YtffdfegelgpniaaZCg
set_option linter.unusedSimpArgs false
set_option linter.unusedVariables false
set_option linter.unusedSimpArgs false
set_option linter.unusedVariables false
namespace Go.Proofs.Ytffdfegelgpniaa
open Go.RowKit Go.Fl

/-- What the elements of a list that is being built must say. -/
structure Ele (E : World → V → List Value → List Nat → Prop) : Prop where
  keep : ∀ {w w' : World} {v : V} {cs : List Value} {S : List Nat}, E w v cs S → (∀ g ∈ S, w'.heap[g]? = w.heap[g]?) → E w' v cs S
  lt : ∀ {w : World} {v : V} {cs : List Value} {S : List Nat}, E w v cs S → ∀ g ∈ S, g < w.heap.size
  five : ∀ {w : World} {v : V} {cs : List Value} {S : List Nat}, E w v cs S → ∃ (k i : Int) (r : Nat) (t : ByteArray) (a : Option Addr) (n cap : Nat), cs = [iv k, iv i, fv r, .string t, .slice a n cap]
theorem VO.ele : Ele VO := ⟨fun h => h.keep, fun h => h.lt, fun h => h.form⟩
/-- A list that is being built: the slice, what lies in it. -/
structure AC (E : World → V → List Value → List Nat → Prop) (N : Nat) (w0 wr : World) (acc : List V) (css : List (List Value)) (Ss : List (List Nat)) (sv : Value) : Prop where
  cl : css.length = acc.length
  sl' : Ss.length = acc.length
  els : ∀ j (h : j < acc.length), E wr acc[j] (css.getD j []) (Ss.getD j [])
  sl : Sl wr 33 5 sv acc.length css.flatten
  nodup : (sv.ownBlock.toList ++ Ss.flatten).Nodup
  ge : ∀ g ∈ sv.ownBlock.toList ++ Ss.flatten, N ≤ g
  only : Only [] w0 wr
section
variable {E : World → V → List Value → List Nat → Prop} {N : Nat} {w0 wr w4 w6 : World} {acc : List V} {css : List (List Value)} {Ss : List (List Nat)} {sv : Value}
theorem AC.begin (w0 : World) : AC E N w0 w0 [] [] [] (.slice none 0 0) :=
  ⟨rfl, rfl, fun j h => absurd h (Nat.not_lt_zero _), Sl.nil _ _ _, List.nodup_nil, (fun g hg => by cases hg), Only.refl _ _⟩
theorem AC.lt (hE : Ele E) (h : AC E N w0 wr acc css Ss sv) : ∀ g ∈ Ss.flatten, g < wr.heap.size := fun g hg => by
  obtain ⟨S, hS, hg⟩ := List.mem_flatten.1 hg
  obtain ⟨j, hj, rfl⟩ := List.getElem_of_mem hS
  have := hE.lt (h.els j (by rw [← h.sl']; exact hj)) g
  rw [List.getD_eq_getElem?_getD, List.getElem?_eq_getElem hj] at this
  exact this hg
theorem AC.only0 (hE : Ele E) (h : AC E N w0 wr acc css Ss sv) (ho : Only [] wr w4) : AC E N w0 w4 acc css Ss sv :=
  ⟨h.cl, h.sl', fun j hj => hE.keep (h.els j hj) fun g hg => ho.block g (hE.lt (h.els j hj) g hg) (by simp), h.sl.only ho (fun _ _ => by simp), h.nodup, h.ge, h.only.trans ho⟩
/-- One more element. -/
theorem AC.push (hE : Ele E) {x : V} {cs : List Value} {S : List Nat} {v7 : Value} (h : AC E N w0 wr acc css Ss sv) (hN : N ≤ wr.heap.size) (hw : N ≤ w0.heap.size ∨ True) (ho : Only [] wr w4) (hx : E w4 x cs S) (hnd : S.Nodup) (hge : ∀ g ∈ S, wr.heap.size ≤ g) (hN0 : w0.heap.size ≤ N)
    (hS : Sl w6 33 5 v7 (acc.length + 1) (css.flatten ++ cs)) (hg : (w4.alloc (.cells cs.toArray 33)).grownBy w6 sv.ownBlock) (hat : v7.ownBlock = sv.ownBlock ∨ v7.ownBlock = some (w4.heap.size + 1)) :
    AC E N w0 w6 (acc ++ [x]) (css ++ [cs]) (Ss ++ [S]) v7 := by
  have hsl := h.lt hE
  have hol : ∀ g, sv.ownBlock = some g → g < wr.heap.size := fun g hg => h.sl.lt g hg
  obtain ⟨d1, d2, d3⟩ := List.nodup_append.1 h.nodup
  have h46 : ∀ g, g < w4.heap.size → sv.ownBlock ≠ some g → w6.heap[g]? = w4.heap[g]? := fun g hg4 hne =>
    (hg.block g (by simp; omega) fun e => hne e.symm).trans (Below.heap_alloc w4 _ g hg4)
  have hown : ∀ g, v7.ownBlock = some g → sv.ownBlock = some g ∨ (w4.heap.size + 1 = g) := fun g hg => by
    rcases hat with e | e
    · exact .inl (e ▸ hg)
    · rw [e] at hg; injection hg with hg; exact .inr hg
  have hs4 := ho.size
  refine ⟨by simp [h.cl], by simp [h.sl'], fun j hj => ?_, by simpa using hS, ?_, fun g hg => ?_, ?_⟩
  · have hcl := h.cl
    have hsl2 := h.sl'
    by_cases hja : j < acc.length
    · rw [List.getElem_append_left hja, List.getD_eq_getElem?_getD, List.getD_eq_getElem?_getD, List.getElem?_append_left (by omega), List.getElem?_append_left (by omega), ← List.getD_eq_getElem?_getD, ← List.getD_eq_getElem?_getD]
      refine hE.keep (h.els j hja) fun g hg => ?_
      have hgl := hE.lt (h.els j hja) g hg
      rw [h46 g (by omega) fun e => d3 g (by simp [e]) g (flatten_mem (by omega) hg) rfl]
      exact ho.block g hgl (by simp)
    · have hje : j = acc.length := by simp at hj; omega
      subst hje
      rw [List.getElem_append_right (by omega), List.getD_eq_getElem?_getD, List.getD_eq_getElem?_getD, List.getElem?_append_right (by omega), List.getElem?_append_right (by omega)]
      simp only [hcl, hsl2, Nat.sub_self, List.getElem?_cons_zero, Option.getD_some, List.getElem_cons_zero]
      exact hE.keep hx fun g hg => h46 g (hE.lt hx g hg) fun e => by have := hol g e; have := hge g hg; omega
  · rw [List.flatten_append, List.flatten_cons, List.flatten_nil, List.append_nil]
    refine List.nodup_append.2 ⟨?_, List.nodup_append.2 ⟨d2, hnd, fun a ha b hb e => ?_⟩, fun a ha b hb e => ?_⟩
    · cases v7.ownBlock with
      | none => exact List.nodup_nil
      | some g => simp
    · have := hsl a ha; have := hge b hb; omega
    · subst e
      have ha' : v7.ownBlock = some a := by simpa using ha
      rcases hown a ha' with e | e
      · rcases List.mem_append.1 hb with hb | hb
        · exact d3 a (by simp [e]) a hb rfl
        · have := hol a e; have := hge a hb; omega
      · rcases List.mem_append.1 hb with hb | hb
        · have := hsl a hb; omega
        · have := hE.lt hx a hb; omega
  · rcases List.mem_append.1 hg with hg | hg
    · rcases hown g (by simpa using hg) with e | e
      · exact h.ge g (List.mem_append_left _ (by simp [e]))
      · omega
    · rw [List.flatten_append, List.flatten_cons, List.flatten_nil, List.append_nil] at hg
      rcases List.mem_append.1 hg with hg | hg
      · exact h.ge g (List.mem_append_right _ hg)
      · have := hge g hg; omega
  · exact ((h.only.trans ho).alloc _).grown hg fun k hk => .inr (by have := h.ge k (List.mem_append_left _ (by simp [hk])); omega)
end
mutual
/-- The document's copy. -/
def V.copied : V → V
  | .mk k i r t l => .mk k i (canR r) t (copieds l)
def copieds : List V → List V
  | [] => []
  | v :: l => v.copied :: copieds l
end
theorem copieds_len : ∀ (l : List V), (copieds l).length = l.length
  | [] => rfl
  | v :: l => by simp only [copieds, List.length_cons, copieds_len l]
theorem copieds_snoc : ∀ (l : List V) (v : V), copieds (l ++ [v]) = copieds l ++ [v.copied]
  | [], v => rfl
  | u :: l, v => by simp only [List.cons_append, copieds, copieds_snoc l v]
mutual
theorem take_copied : ∀ (v : V) (nest : Nat) (room : Int) (x : I), (v.take nest room).1 = some x → v.copied = x.toV
  | .mk k i r t l, nest, room, x, h => by
    have hz : ((k = 2 ∨ k = 3 ∨ i = 0) ∧ (k = 4 ∨ r = 0) ∧ (k = 5 ∨ t.size = 0) ∧ (k = 6 ∨ l = [])) := by
      have h' := h
      unfold V.take at h'
      by_cases hb : bad k i r t l.length (room - 1) = true
      · rw [if_pos hb] at h'; cases h'
      unfold bad at hb
      simp only [Bool.or_eq_true, Bool.and_eq_true, decide_eq_true_eq] at hb
      refine ⟨by omega, by omega, by omega, ?_⟩
      by_cases k6 : k = 6
      · exact .inl k6
      · exact .inr (List.length_eq_zero_iff.1 (by omega))
    have ht0 : t.size = 0 → t = ⟨#[]⟩ := fun h => by
      obtain ⟨d⟩ := t
      have : d = #[] := Array.eq_empty_of_size_eq_zero h
      rw [this]
    have hc0 : canR 0 = 0 := by unfold canR nanB; decide
    obtain ⟨z1, z2, z3, z4⟩ := hz
    unfold V.copied
    rcases take_form h with ⟨a, rfl, b⟩ | ⟨a, rfl⟩ | ⟨a, rfl⟩ | ⟨a, rfl⟩ | ⟨a, rfl⟩ | ⟨a, xs, rfl, b⟩
    · obtain rfl : i = 0 := by omega
      obtain rfl : r = 0 := by omega
      rw [ht0 (by omega), b, a, hc0]
      rfl
    · obtain rfl : r = 0 := by omega
      obtain rfl : l = [] := by rcases z4 with e | e <;> first | omega | exact e
      rw [ht0 (by omega), a, hc0]
      rfl
    · obtain rfl : r = 0 := by omega
      obtain rfl : l = [] := by rcases z4 with e | e <;> first | omega | exact e
      rw [ht0 (by omega), a, hc0]
      rfl
    · obtain rfl : i = 0 := by omega
      obtain rfl : l = [] := by rcases z4 with e | e <;> first | omega | exact e
      rw [ht0 (by omega), a]
      rfl
    · obtain rfl : i = 0 := by omega
      obtain rfl : r = 0 := by omega
      obtain rfl : l = [] := by rcases z4 with e | e <;> first | omega | exact e
      rw [a, hc0]
      rfl
    · obtain rfl : i = 0 := by omega
      obtain rfl : r = 0 := by omega
      rw [ht0 (by omega), a, hc0, takes_copied l _ _ xs b]
      rfl
theorem takes_copied : ∀ (l : List V) (nest : Nat) (room : Int) (xs : List I), (takes l nest room).1 = some xs → copieds l = toVs xs
  | [], nest, room, xs, h => by simp [takes] at h; subst h; rfl
  | v :: l, nest, room, xs, h => by
    cases hh : v.take nest room with
    | mk a b =>
      cases a with
      | none => simp [takes, hh] at h
      | some y =>
        simp only [takes, hh] at h
        cases hl : (takes l nest b).1 with
        | none => rw [hl] at h; cases h
        | some ys =>
          rw [hl] at h
          injection h with h
          subst h
          simp only [copieds, toVs]
          rw [take_copied v nest room y (by rw [hh]), takes_copied l nest b ys hl]
end
def CopiedOk (v : V) : Prop := ∀ (w : World) (F : Nat → Prop) (cs : List Value), VIs w F v cs → v.small →
  Calls Try.prog 44 #[.agg cs.toArray] w fun e w' => ∃ cs2 S, e = .returned (.agg cs2.toArray) ∧ VO w' v.copied cs2 S ∧ S.Nodup ∧ (∀ g ∈ S, w.heap.size ≤ g) ∧ Only [] w w'
set_option maxRecDepth 100000 in
set_option maxHeartbeats 3200000 in
theorem copied_step (v : V) (H : ∀ x ∈ v.kids, CopiedOk x) : CopiedOk v := by
  intro w F cs hv hsm
  obtain ⟨j33, si, sz0, sz1, sz2⟩ := info_parts info33
  cases hv with
  | @mk k i r t l a cap css wk wi wr0 wt hlen hmax hcell hvs =>
  have hll : l.length ≤ 65536 := hsm.1
  have HSM := Lib.hid (Smalls.get hsm.2)
  have HC := Lib.hid hcell
  have HV := Lib.hid hvs
  have HH := Lib.hid (fun (j : Nat) (h : j < l.length) => H l[j] (show l[j] ∈ (V.mk k i r t l).kids from List.getElem_mem h))
  clear hcell hvs H hsm
  obtain ⟨w0, hw0⟩ : ∃ x : World, x = (w.alloc (.cells #[iv k, iv i, fv r, .string t, .slice a l.length cap] 33)).alloc (.cells zeroV.toArray 33) := ⟨_, rfl⟩
  have HW0 := Lib.hid hw0
  have HB1 := Lib.hid (show Blk w0 w.heap.size 33 #[iv k, iv i, fv r, .string t, .slice a l.length cap] by rw [hw0]; exact (Blk.new _ _ _).alloc _)
  clear hw0
  go_enter Try.func44, Try.ntmps44
  go_wp2_with fail
  rw [← HW0.out]
  refine (canon2_ok _ r wr0).mono ?_
  rintro e w1 ⟨rfl, rfl⟩
  have x2 := HB1.out.cell 2
  have f2 := HB1.out.frozen 2
  simp at x2
  have hsf : ∀ (a : Addr) (b : Nat) (m : Mode) (w : World), (store a (.float .f64 b) m).run Try.prog w = stored Try.prog w a (.float .f64 b) m := fun a b m w => run_store Try.prog w a _ m rfl
  go_wp2
  obtain ⟨w2, hw2⟩ : ∃ x : World, x = w1.setCell ⟨w.heap.size, 2, none⟩ (.float .f64 (canR r)) := ⟨_, rfl⟩
  have HB2 := Lib.hid (show Blk w2 w.heap.size 33 #[iv k, iv i, fv (canR r), .string t, .slice a l.length cap] by rw [hw2]; exact HB1.out.set_ 2 _)
  have HZ2 := Lib.hid (show Blk w2 (w.heap.size + 1) 33 zeroV.toArray by
    rw [hw2]
    refine Blk.far ?_ (by simp) _
    rw [HW0.out]
    have h := Blk.new (w.alloc (.cells #[iv k, iv i, fv r, .string t, .slice a l.length cap] 33)) 33 zeroV.toArray
    rw [show (w.alloc (.cells #[iv k, iv i, fv r, .string t, .slice a l.length cap] 33)).heap.size = w.heap.size + 1 by simp] at h
    exact h)
  have HO2 := Lib.hid (show Only [] w w2 by rw [hw2, HW0.out]; exact (((Only.refl [] w).alloc _).alloc _).setCell (.inr (Nat.le_refl _)) _)
  have HZ := Lib.hid (show w2.heap.size = w.heap.size + 2 by rw [hw2, HW0.out]; simp)
  rw [← hw2]
  clear hw2 HB1 x2 f2 hsf
  go_loopw [3, 4] (fun v z wr => ∃ (n : Nat) (css2 : List (List Value)) (Ss : List (List Nat)), n ≤ l.length ∧ z = .int .i64 n ∧ Hid (AC VO (w.heap.size + 2) w2 wr (copieds (l.take n)) css2 Ss v)) (fun _ z _ => l.length - (intOf z).toNat)
  case atStart => exact ⟨0, [], [], Nat.zero_le _, rfl, Lib.hid (AC.begin w2)⟩
  case round =>
    obtain ⟨n, css2, Ss, hn, rfl, HA⟩ := hrel
    obtain ⟨va, vc, hv, _, _⟩ := HA.out.sl.shape
    have hacl := copieds_len (l.take n)
    have hacl2 : (copieds (l.take n)).length = n := by rw [hacl, List.length_take]; omega
    rw [hacl2] at hv
    subst hv
    have HBr := Lib.hid (HB2.out.only HA.out.only (by simp))
    have b4 := HBr.out.cell 4
    simp at b4
    by_cases hnl : n < l.length
    · have hnz : (n : Int) < (l.length : Int) := by omega
      obtain ⟨g, off, rfl, hg, hFg, hcc⟩ := HC.out (by omega)
      have hv := HV.out n hnl
      obtain ⟨c0, c1, c2, c3, c4, c5, c6, hcs⟩ := hv.five
      have hx : ∀ c u, (css n)[c]? = some u → wr.cell? ⟨g, off + n * 5 + c, none⟩ = some u := fun c u hu => ((HO2.out.trans HA.out.only).cell (p := ⟨g, off + n * 5 + c, none⟩) hg (by simp)).trans (hcc n c u hnl hu)
      have x0 := hx 0 (iv c0) (by rw [hcs]; rfl)
      have x1 := hx 1 (iv c1) (by rw [hcs]; rfl)
      have x2 := hx 2 (fv c2) (by rw [hcs]; rfl)
      have x3 := hx 3 (.string c3) (by rw [hcs]; rfl)
      have x5 := hx 4 (.slice c4 c5 c6) (by rw [hcs]; rfl)
      rw [Nat.add_zero] at x0
      have HT := Lib.hid (HH.out n hnl wr F (css n) (hv.only0 (HO2.out.trans HA.out.only)) (HSM.out n hnl))
      rw [hcs] at HT
      have HE := Lib.hid (show copieds (l.take (n + 1)) = copieds (l.take n) ++ [l[n].copied] by rw [List.take_succ_eq_append_getElem hnl, copieds_snoc])
      have hwz := HA.out.only.size
      have hwz2 := HZ.out
      clear hx hcc hv
      go_wp2_with fail
      refine HT.out.mono ?_
      clear HT x0 x1 x2 x3 x5 b4
      rintro e w4 ⟨cs2, S, rfl, hvo, hnd, hge, ho⟩
      have hS4 := HA.out.sl.only ho (fun _ _ => by simp)
      rw [hacl2] at hS4
      have hlen5 := hvo.len
      obtain ⟨d0, d1, d2, d3, d4, d5, d6, hds⟩ := hvo.form
      subst hds
      go_wp2_with (at_builtin; refine wpList_append_one (news := [iv d0, iv d1, fv d2, .string d3, .slice d4 d5 d6]) rfl (.tmp 16) (.tmp 23) 31 rfl 33 j33 _ 5 64 Try.underlying31 si sz0 sz1 sz2 rfl (by decide) rfl (hS4.alloc _) rfl (Blk.new _ _ _) rfl (by simp [Value.oneCell']) (by unfold maxLen; omega) (by omega) ?_)
      intro v7 w7 hS7 hg7 hat7
      have HA7 := Lib.hid (show AC VO (w.heap.size + 2) w2 w7 (copieds (l.take (n + 1))) (css2 ++ [[iv d0, iv d1, fv d2, .string d3, .slice d4 d5 d6]]) (Ss ++ [S]) v7 by
        rw [HE.out]
        exact HA.out.push VO.ele (by omega) (.inr trivial) ho hvo hnd hge (by omega) (by rw [hacl2]; exact hS7) hg7 (by simpa [Value.ownBlock] using hat7))
      clear hS7 hg7 hat7 hvo hnd hge ho hS4 HA HE
      go_wp2
      go_roundw
      case measure => simp [intOf]; omega
      case rel => exact ⟨n + 1, _, _, by omega, by go_num, HA7⟩
    · obtain rfl : n = l.length := by omega
      rw [List.take_length] at HA
      have HAL := Lib.hid (copieds_len l)
      have bf4 := HBr.out.frozen 4
      have bl := HBr.out.lt
      obtain ⟨w5, hw5⟩ : ∃ x : World, x = wr.setCell ⟨w.heap.size, 4, none⟩ (.slice va l.length vc) := ⟨_, rfl⟩
      have HB5 := Lib.hid (show Blk w5 w.heap.size 33 #[iv k, iv i, fv (canR r), .string t, .slice va l.length vc] by rw [hw5]; exact HBr.out.set_ 4 _)
      have HZ5 := Lib.hid (show Blk w5 (w.heap.size + 1) 33 zeroV.toArray by rw [hw5]; exact (HZ2.out.only HA.out.only (by simp)).far (by simp) _)
      have ho5 : Only [w.heap.size] wr w5 := by rw [hw5]; exact (Only.refl _ _).setCell (.inl (by simp)) _
      have HO5 := Lib.hid (show Only [] w w5 from (HO2.out.trans HA.out.only).trans' ho5 fun i hi => .inr (by simp at hi; omega))
      have hfar : ∀ g ∈ (Value.slice va l.length vc).ownBlock.toList ++ Ss.flatten, g ∉ [w.heap.size] := fun g hg hm => by
        have := HA.out.ge g hg
        simp at hm
        omega
      have hvm : l.length ≤ vc ∧ vc ≤ maxLen := by
        rcases HA.out.sl.2 with ⟨e, e2⟩ | ⟨g, off, cap', cur, e, hh, h1, h2, _, _⟩
        · injection e with e1 e2 e3
          subst e3
          exact ⟨by omega, Nat.zero_le _⟩
        · injection e with e1 e2 e3
          subst e3
          exact ⟨by omega, h2⟩
      have HVO := Lib.hid (show VO w5 (.mk k i (canR r) t (copieds l)) [iv k, iv i, fv (canR r), .string t, .slice va l.length vc] ((Value.slice va l.length vc).ownBlock.toList ++ Ss.flatten) from
        .mk css2 Ss wk wi (canR_lt wr0) wt HA.out.cl HA.out.sl' (HA.out.sl.only ho5 fun g hg => hfar g (List.mem_append_left _ (by simp [hg]))) (fun j hj => (HA.out.els j hj).only ho5 fun g hg => hfar g (List.mem_append_right _ (flatten_mem (by rw [HA.out.sl']; exact hj) hg))))
      have HND := Lib.hid HA.out.nodup
      have HGE := Lib.hid HA.out.ge
      clear ho5 hfar HA HZ2
      have q0 := HB5.out.cell 0
      have q1 := HB5.out.cell 1
      have q2 := HB5.out.cell 2
      have q3 := HB5.out.cell 3
      have q4 := HB5.out.cell 4
      simp at q0 q1 q2 q3 q4
      have hz5 := HZ5.out
      go_upto_region 8 with fail
      rw [← hw5]
      clear hw5 b4 bf4 bl
      go_wp2_with (refine wpList_store_blk rfl 33 (.tmp 2) (.tmp 27) rfl [iv k, iv i, fv (canR r), .string t, .slice va l.length vc] rfl rfl hz5 (by kernel_rfl) (by simp) (by simp [Value.oneCell']) ?_)
      intro w6 hB6 hO6
      have HB6 := Lib.hid hB6
      have HO6 := Lib.hid hO6
      clear hB6 hO6 hz5 q0 q1 q2 q3 q4
      go_wp2
      refine bodyPost_ret (results1 rfl (res_blk (cs := [iv k, iv i, fv (canR r), .string t, .slice va l.length vc]) Try.underlying33 (by kernel_rfl) rfl HB6.out)) rfl ?_
      exact ⟨_, _, rfl, HVO.out.only HO6.out (fun g hg hm => by have := HGE.out g hg; simp at hm; omega), HND.out, (fun g hg => by have := HGE.out g hg; omega), HO5.out.trans' HO6.out fun i hi => .inr (by simp at hi; omega)⟩
theorem copied_ok (v : V) : CopiedOk v := by
  refine V.rec (motive_1 := CopiedOk) (motive_2 := fun l => ∀ x ∈ l, CopiedOk x) ?_ ?_ ?_ v
  · intro k i r t l ih
    exact copied_step _ ih
  · intro x hx; cases hx
  · intro a l ha hl x hx
    rcases List.mem_cons.1 hx with rfl | hx
    · exact ha
    · exact hl x hx
end Go.Proofs.Ytffdfegelgpniaa
