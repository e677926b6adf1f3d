/-
  The document's reading: a list; its Read.
-/
import Derived.Test.YtffdfegelgpniaaZCc
set_option linter.unusedSimpArgs false
set_option linter.unusedVariables false
set_option linter.unusedSimpArgs false
set_option linter.unusedVariables false
namespace Go.Proofs.Ytffdfegelgpniaa
open Go.Fl Go.RowKit

/-- One more value lies in the list: its slice is stored. -/
theorem LM.more {w wa : World} {r N : Nat} {acc : List V} {css : List (List Value)} {Ss : List (List Nat)} {sv v7 : Value} {x : V} {cs : List Value} {S : List Nat} (h : LM w wa r acc css Ss sv) (hvo : VO wa x cs S) (hnd : S.Nodup)
    (hge : ∀ g ∈ S, N ≤ g) (hsl : ∀ g ∈ Ss.flatten, g < N) (hol : ∀ g, sv.ownBlock = some g → g < N) (h5 : w.heap.size + 1 < N) (hown : ∀ g, v7.ownBlock = some g → sv.ownBlock = some g ∨ (N ≤ g ∧ g ∉ S))
    (h7 : Sl wa 33 5 v7 (acc.length + 1) (css.flatten ++ cs)) :
    LM w (wa.setCell ⟨w.heap.size + 1, 4, none⟩ v7) r (acc ++ [x]) (css ++ [cs]) (Ss ++ [S]) v7 ∧ Sl (wa.setCell ⟨w.heap.size + 1, 4, none⟩ v7) 33 5 v7 (acc ++ [x]).length (css ++ [cs]).flatten := by
  have HB5 : Blk (wa.setCell ⟨w.heap.size + 1, 4, none⟩ v7) (w.heap.size + 1) 33 #[iv 6, iv 0, fv 0, .string ⟨#[]⟩, v7] := h.blk5.set_ 4 v7
  have HO5 : Only [w.heap.size + 1] wa (wa.setCell ⟨w.heap.size + 1, 4, none⟩ v7) := (Only.refl _ _).setCell (.inl (by simp)) _
  have hd := h.nodup
  have hge7 : ∀ g, v7.ownBlock = some g → w.heap.size + 2 ≤ g := fun g hg => by
    rcases hown g hg with e | ⟨e, _⟩
    · exact h.ge g (List.mem_append_left _ (by simp [e]))
    · omega
  refine ⟨⟨(HO5.block _ h.blk4.lt (by simp)).trans h.blk4, HB5, by simp [h.cl], by simp [h.sl'], fun j hj => ?_, ?_, fun g hg => ?_, h.only.trans' HO5 fun i hi => .inr (by simp at hi; omega)⟩, ?_⟩
  · have hcl := h.cl
    have hsl2 := h.sl'
    by_cases hja : j < acc.length
    · rw [List.getElem_append_left hja, List.getD_eq_getElem?_getD, List.getD_eq_getElem?_getD, List.getElem?_append_left (by omega), List.getElem?_append_left (by omega), ← List.getD_eq_getElem?_getD, ← List.getD_eq_getElem?_getD]
      exact (h.els j hja).only HO5 fun g hg hm => by
        have := h.ge g (List.mem_append_right _ (flatten_mem (by omega) hg)); simp at hm; omega
    · have hje : j = acc.length := by simp at hj; omega
      subst hje
      rw [List.getElem_append_right (by omega), List.getD_eq_getElem?_getD, List.getD_eq_getElem?_getD, List.getElem?_append_right (by omega), List.getElem?_append_right (by omega)]
      simp only [hcl, hsl2, Nat.sub_self, List.getElem?_cons_zero, Option.getD_some, List.getElem_cons_zero]
      exact hvo.only HO5 fun g hg hm => by
        have := hge g hg; simp at hm; omega
  · rw [List.flatten_append, List.flatten_cons, List.flatten_nil, List.append_nil]
    obtain ⟨d1, d2, d3⟩ := List.nodup_append.1 hd
    refine List.nodup_append.2 ⟨?_, List.nodup_append.2 ⟨d2, hnd, fun a ha b hb e => ?_⟩, fun a ha b hb e => ?_⟩
    · cases v7.ownBlock with
      | none => exact List.nodup_nil
      | some g => simp
    · have := hsl a ha; have := hge b hb; omega
    · subst e
      have ha' : v7.ownBlock = some a := by simpa using ha
      rcases hown a ha' with e | ⟨e, e2⟩
      · rcases List.mem_append.1 hb with hb | hb
        · exact d3 a (by simp [e]) a hb rfl
        · have := hol a e; have := hge a hb; omega
      · rcases List.mem_append.1 hb with hb | hb
        · have := hsl a hb; omega
        · exact e2 hb
  · rcases List.mem_append.1 hg with hg | hg
    · exact hge7 g (by simpa using hg)
    · rw [List.flatten_append, List.flatten_cons, List.flatten_nil, List.append_nil] at hg
      rcases List.mem_append.1 hg with hg | hg
      · exact h.ge g (List.mem_append_right _ hg)
      · have := hge g hg; omega
  · have := h7.only HO5 fun g hg hm => by have := hge7 g hg; simp at hm; omega
    simpa using this
structure LQ (w wr : World) (G : Nat → Prop) (r : Nat) (bs : List Nat) (s : Value) (nest at0 : Nat) (left0 : Int) (n0 m pos : Nat) (left : Int) (acc : List V) (css : List (List Value)) (Ss : List (List Nat)) (sv : Value) : Prop where
  eq : plist n0 bs nest at0 left0 [] = plist m bs nest pos left acc
  fuel : 2 * (bs.length - pos) + 1 ≤ m
  mle : m ≤ n0
  low : 0 ≤ left
  high : left ≤ 65536
  cnt : acc.length ≤ pos
  ps : RG wr G r bs s pos left
  sl : Sl wr 33 5 sv acc.length css.flatten
  lm : LM w wr r acc css Ss sv
def eOf (w : World) (r : Nat) : Int := intOf ((w.cell? ⟨r, 3, none⟩).getD undef)
/-- What is left to do. -/
def todo (w : World) (r n : Nat) : Nat := if eOf w r = 0 then n - atOf w r + 1 else 0
theorem todo_good {w : World} {F : Nat → Prop} {r : Nat} {bs : List Nat} {s : Value} {at_ : Nat} {left : Int} (h : RG w F r bs s at_ left) : todo w r bs.length = bs.length - at_ + 1 := by
  unfold todo eOf
  rw [h.at_of, h.blk.cell 3]
  simp [intOf]
theorem todo_bad {w : World} {r n : Nat} {s : Value} {p l c : Int} (h : Blk w r 67 #[s, iv p, iv l, iv c]) (hc : c ≠ 0) : todo w r n = 0 := by
  unfold todo eOf
  rw [h.cell 3]
  simp [intOf, hc]
set_option maxRecDepth 100000 in
set_option maxHeartbeats 3200000 in
theorem rlist_step (n : Nat) (HV : ∀ m, m < n → RValOk m) : RLstOk n := by
  intro w F r bs s nest at_ left h h0 h1 hbl hn hfu
  obtain ⟨j33, si, sz0, sz1, sz2⟩ := info_parts info33
  have hFr := h.out
  have hst := h.strict
  have HBB := Lib.hid (show ∀ c ∈ bs, c < 256 by obtain ⟨_, _, _, _, _, hb, _⟩ := h.bytes; exact hb)
  have hrl := h.blk.lt
  have hle := h.le
  have hform : ∃ sa sc, s = .slice sa bs.length sc := by obtain ⟨a, cap, e, _⟩ := h.bytes; exact ⟨a, cap, e⟩
  obtain ⟨sa, sc, rfl⟩ := hform
  clear h
  obtain ⟨G, hG⟩ : ∃ G : Nat → Prop, G = fun g => F g ∧ g < w.heap.size := ⟨_, rfl⟩
  rw [← hG] at hst
  have HG := Lib.hid (show ∀ g, G g → F g ∧ g < w.heap.size by rw [hG]; exact fun _ h => h)
  have HGF := Lib.hid (show ∀ (w' : World) (q : Nat) (rm : Int), RG w' G r bs (.slice sa bs.length sc) q rm → RG w' F r bs (.slice sa bs.length sc) q rm from fun _ _ _ h => h.mono (fun g hg => (HG.out g hg).1) hFr)
  have H := Lib.hid hst
  clear hst hG
  go_enter Try.func58, Try.ntmps58
  go_wp2_with (refine wpList_store_blk rfl 33 (.tmp 5) (.tmp 7) rfl [iv 6, iv 0, fv 0, .string ⟨#[]⟩, .slice none 0 0] rfl rfl (by have := Blk.new (w.alloc (.cells zeroV.toArray 33)) 33 zeroV.toArray; rw [show (w.alloc (.cells zeroV.toArray 33)).heap.size = w.heap.size + 1 by simp] at this; exact this) (by kernel_rfl) (by simp) (by simp [Value.oneCell']) ?_)
  intro w1 hB1 hO1
  have HO1 := Lib.hid (show Only [] w w1 from (((Only.refl [] w).alloc _).alloc _).trans' hO1 (fun i hi => .inr (by simp at hi; omega)))
  have HR0 := Lib.hid (show LQ w w1 G r bs (.slice sa bs.length sc) nest at_ left n n at_ left [] [] [] (.slice none 0 0) from
    ⟨rfl, hfu, Nat.le_refl _, h0, h1, Nat.zero_le _, H.out.only HO1.out, Sl.nil _ _ _,
      ⟨(hO1.block _ (by simp; omega) (by simp)).trans ((Blk.new w 33 zeroV.toArray).alloc _), hB1, rfl, rfl, fun j h => absurd h (Nat.not_lt_zero _), List.nodup_nil, (fun g hg => by cases hg), HO1.out.mono (by simp)⟩⟩)
  clear hB1 hO1
  go_wp2
  go_loopw [] (fun wr => (∃ (m pos : Nat) (rm : Int) (acc : List V) (css : List (List Value)) (Ss : List (List Nat)) (sv : Value), Hid (LQ w wr G r bs (.slice sa bs.length sc) nest at_ left n m pos rm acc css Ss sv)) ∨
    ∃ (p c l : Int), Hid (plist n bs nest at_ left [] = .bad p c ∧ c ≠ 0 ∧ Blk wr r 67 #[.slice sa bs.length sc, iv p, iv l, iv c] ∧ Only [r] w wr ∧ Blk wr w.heap.size 33 zeroV.toArray)) (fun wr => todo wr r bs.length)
  case atStart => exact .inl ⟨n, at_, left, [], [], [], _, HR0⟩
  case round =>
    rcases hrel with ⟨m, pos, rm, acc, css, Ss, sv, HR⟩ | ⟨p, c, l, HR⟩
    case inr =>
      have hc0 : (c == 0) = false := by rw [beq_eq_false_iff_ne]; exact HR.out.2.1
      obtain ⟨hc, hf, hlt⟩ := HR.out.2.2.1.facts
      have x0 := hc 0
      have x1 := hc 1
      have x2 := hc 2
      have x3 := hc 3
      have f1 := hf 1
      have f2 := hf 2
      simp at x0 x1 x2 x3
      clear hc hf
      have hz := HR.out.2.2.2.2
      go_wp2_with (refine wpList_store_blk rfl 33 (.tmp 4) (.tmp 62) rfl zeroV rfl rfl hz (by kernel_rfl) (by simp) (by simp [Value.oneCell']) ?_)
      intro w9 hB9 hO9
      have HB9 := Lib.hid (show Blk w9 w.heap.size 33 zeroV.toArray from hB9)
      have HO9 := Lib.hid hO9
      clear hB9 hO9 hz
      go_wp2
      refine bodyPost_ret (results1 rfl (res_blk (cs := zeroV) Try.underlying33 (by kernel_rfl) rfl HB9.out)) rfl ?_
      rw [HR.out.1]
      exact ⟨rfl, ⟨l, HR.out.2.2.1.only HO9.out (by simp; omega)⟩, HR.out.2.2.2.1.trans' HO9.out fun i hi => .inr (by simp at hi; omega)⟩
    case inl =>
      have HAT := Lib.hid (todo_good HR.out.ps)
      have hfuel := HR.out.fuel
      have hmle := HR.out.mle
      have hcnt := HR.out.cnt
      have hple := HR.out.ps.le
      have hlow := HR.out.low
      have hhigh := HR.out.high
      obtain ⟨m, rfl⟩ : ∃ k, m = k + 1 := ⟨m - 1, by omega⟩
      obtain ⟨hc, hf, hlt⟩ := HR.out.ps.blk.facts
      have x0 := hc 0
      have x1 := hc 1
      have x2 := hc 2
      have x3 := hc 3
      have f1 := hf 1
      have f2 := hf 2
      simp at x0 x1 x2 x3
      clear hc hf
      by_cases hp : pos < bs.length
      case neg =>
        have hpz : ((pos : Int) == (bs.length : Int)) = true := by rw [beq_iff_eq]; omega
        have e : bs.length = pos := by omega
        have HF := Lib.hid (show plist n bs nest at_ left [] = .bad pos 2 by rw [HR.out.eq]; unfold plist; rw [List.getElem?_eq_none (by omega), e])
        clear e
        go_wp2
        refine Lex.wp_region_text (by kernel_rfl) (by kernel_rfl) ?_
        go_wp2
        refine Lex.sq_done (by rfl) ?_
        go_wp2_with fail
        refine (fail2_ok HR.out.ps.blk.drew (pos : Int) 2).mono ?_
        rintro e w8 ⟨rfl, ⟨left8, hb8⟩, ho8⟩
        have hz8 := HR.out.lm.blk4.drew.only ho8 (by simp; omega)
        have HB8 := Lib.hid hb8
        have HO8 := Lib.hid (HR.out.lm.only.drew.trans ho8)
        clear hb8 ho8
        go_wp2_with (refine wpList_store_blk rfl 33 (.tmp 4) (.tmp 28) rfl zeroV rfl rfl hz8 (by kernel_rfl) (by simp) (by simp [Value.oneCell']) ?_)
        intro w9 hB9 hO9
        have HB9 := Lib.hid (show Blk w9 w.heap.size 33 zeroV.toArray from hB9)
        have HO9 := Lib.hid hO9
        clear hB9 hO9 hz8
        go_wp2
        refine bodyPost_ret (results1 rfl (res_blk (cs := zeroV) Try.underlying33 (by kernel_rfl) rfl HB9.out)) rfl ?_
        rw [HF.out]
        exact ⟨rfl, ⟨left8, HB8.out.only HO9.out (by simp; omega)⟩, HO8.out.trans' HO9.out fun i hi => .inr (by simp at hi; omega)⟩
      have hpz : ((pos : Int) == (bs.length : Int)) = false := by rw [beq_eq_false_iff_ne]; omega
      have hpl : (pos : Int) < (bs.length : Int) := by omega
      obtain ⟨sa', sc', es, _, _, _, hcell⟩ := HR.out.ps.bytes
      injection es with e1 _ e3
      subst e1
      subst e3
      obtain ⟨g, off, rfl, hg, hgG, hcc⟩ := hcell (by omega)
      have y0 := hcc pos hp
      have hgr : g ≠ r := fun e => HR.out.ps.out (e ▸ hgG)
      have HE := Lib.hid (show plist n bs nest at_ left [] = (if bs[pos] = 0 then .ok (.mk 6 0 0 ⟨#[]⟩ acc) (pos + 1) rm else match pval m bs bs[pos] nest (pos + 1) rm with | .bad p e => .bad p e | .ok v q rm => plist m bs nest q rm (acc ++ [v])) by
        rw [HR.out.eq]
        conv => lhs; unfold plist
        rw [List.getElem?_eq_getElem hp]
        rfl)
      have HV0 := Lib.hid (show rval m bs nest pos rm = pval m bs bs[pos] nest (pos + 1) rm by unfold rval; rw [List.getElem?_eq_getElem hp])
      have hcb := HBB.out _ (List.getElem_mem hp)
      clear hcell hcc
      generalize bs[pos] = c at *
      by_cases hz : c = 0
      · subst hz
        have HF := Lib.hid (HE.out.trans (if_pos rfl))
        obtain ⟨a, cap, rfl, hcap, hmax⟩ : ∃ a cap, sv = .slice a acc.length cap ∧ acc.length ≤ cap ∧ cap ≤ maxLen := by
          rcases HR.out.sl.2 with ⟨e, e2⟩ | ⟨g, off, cap', cur, e, hh, h1, h2, _, _⟩
          · exact ⟨_, _, e.trans (by rw [e2]), by omega, by decide⟩
          · exact ⟨_, _, e, h1, h2⟩
        obtain ⟨w2, hw2⟩ : ∃ x : World, x = (wr.setCell ⟨r, 1, none⟩ (.int .i64 (pos + 1))).drew.drew := ⟨_, rfl⟩
        have ho2 : Only [r] wr w2 := by rw [hw2]; exact ((Only.refl _ _).setCell (.inl (by simp)) _).drew.drew
        have HP := Lib.hid (show RG w2 G r bs (.slice (some ⟨g, off, none⟩) bs.length sc) (pos + 1) rm by rw [hw2]; exact (HR.out.ps.step hp).only (Only.refl _ _).drew.drew)
        have HM := Lib.hid (HR.out.lm.onlyR ho2 hrl)
        have HS := Lib.hid (HR.out.sl.only ho2 (fun g hg hm => by have := HR.out.lm.ge g (List.mem_append_left _ (by simp [hg])); simp at hm; omega))
        clear ho2
        go_wp2
        refine Lex.wp_region_text (by kernel_rfl) (by kernel_rfl) ?_
        go_wp2
        refine Lex.sq_done (by rfl) ?_
        go_wp2
        refine Lex.wp_region_text (by kernel_rfl) (by kernel_rfl) ?_
        go_wp2
        refine Lex.sq_done (by rfl) ?_
        go_upto_region 7 with fail
        rw [← hw2]
        have hb5 := HM.out.blk5
        have y0 := hb5.cell 0
        have y1 := hb5.cell 1
        have y2 := hb5.cell 2
        have y3 := hb5.cell 3
        have y4 := hb5.cell 4
        simp at y0 y1 y2 y3 y4
        have hb4 := HM.out.blk4
        clear HE hb5 hw2
        go_wp2_with (refine wpList_store_blk rfl 33 (.tmp 4) (.tmp 47) rfl [iv 6, iv 0, fv 0, .string ⟨#[]⟩, .slice a acc.length cap] rfl rfl hb4 (by kernel_rfl) (by simp) (by simp [Value.oneCell']) ?_)
        intro w3 hB3 hO3
        have HB3 := Lib.hid hB3
        have HO3 := Lib.hid hO3
        clear hB3 hO3 hb4 y0 y1 y2 y3 y4
        go_wp2
        refine bodyPost_ret (results1 rfl (res_blk (cs := [iv 6, iv 0, fv 0, .string ⟨#[]⟩, .slice a acc.length cap]) Try.underlying33 (by kernel_rfl) rfl HB3.out)) rfl ?_
        rw [HF.out]
        have hfar : ∀ g ∈ (Value.slice a acc.length cap).ownBlock.toList ++ Ss.flatten, g ∉ [w.heap.size] := fun g hg hm => by
          have := HM.out.ge g hg
          simp at hm
          omega
        refine ⟨[iv 6, iv 0, fv 0, .string ⟨#[]⟩, .slice a acc.length cap], _, rfl, .mk css Ss (by decide) (by decide) (by omega) (Nat.zero_le _) HM.out.cl HM.out.sl' (HS.out.only HO3.out fun g hg => hfar g (List.mem_append_left _ (by simp [hg]))) (fun j hj => (HM.out.els j hj).only HO3.out fun g hg => hfar g (List.mem_append_right _ (flatten_mem (by rw [HM.out.sl']; exact hj) hg))), HM.out.nodup, (fun g hg => by have := HM.out.ge g hg; omega), HGF.out _ _ _ (HP.out.far HO3.out (by simp; omega) (fun g hg hm => by have := (HG.out g hg).2; simp at hm; omega)), HM.out.only.trans' HO3.out (fun i hi => .inr (by simp at hi; omega))⟩
      · have hz1 : ((c : Int) == 0) = false := by rw [beq_eq_false_iff_ne]; omega
        have HF0 := Lib.hid (HE.out.trans (if_neg hz))
        obtain ⟨w2, hw2⟩ : ∃ x : World, x = wr.drew.drew := ⟨_, rfl⟩
        have ho2 : Only [] wr w2 := by rw [hw2]; exact (Only.refl _ _).drew.drew
        have HP := Lib.hid (HR.out.ps.only ho2)
        have HM := Lib.hid (HR.out.lm.onlyR (ho2.mono (by simp)) hrl)
        have HS := Lib.hid (HR.out.sl.only ho2 (fun _ _ => by simp))
        have HC := Lib.hid (HV m (by omega) w2 G r bs (.slice (some ⟨g, off, none⟩) bs.length sc) nest pos rm HP.out hlow hhigh hbl hn (fun _ => by omega))
        rw [HV0.out] at HC
        have HRS := Lib.hid (fun (x : V) (q : Nat) (rm' : Int) (h : pval m bs c nest (pos + 1) rm = .ok x q rm') => pval_ok m bs c nest (pos + 1) rm x q rm' hlow h)
        have HRB := Lib.hid (fun (p e : Int) (h : pval m bs c nest (pos + 1) rm = .bad p e) => pval_bad m bs c nest (pos + 1) rm p e HBB.out hn hlow (by omega) (by omega) h)
        clear HE HV0 ho2
        generalize hres : pval m bs c nest (pos + 1) rm = res at *
        clear hres
        go_wp2
        refine Lex.wp_region_text (by kernel_rfl) (by kernel_rfl) ?_
        go_wp2
        refine Lex.sq_done (by rfl) ?_
        go_wp2
        refine Lex.wp_region_text (by kernel_rfl) (by kernel_rfl) ?_
        go_wp2
        refine Lex.sq_done (by rfl) ?_
        go_wp2_with fail
        rw [← hw2]
        clear x0 x1 x2 x3 f1 f2 hlt y0 hw2
        refine HC.out.mono ?_
        clear HC
        intro e w4 hc
        unfold RValPost at hc
        cases res with
        | bad p0 e0 =>
          obtain ⟨rfl, ⟨left4, hb4⟩, ho4⟩ := hc
          have he0 := HRB.out p0 e0 rfl
          have hez : (e0 == 0) = false := by rw [beq_eq_false_iff_ne]; omega
          go_wp2_with (refine wpList_store_blk rfl 33 (.tmp 6) (.tmp 50) rfl zeroV rfl rfl (Blk.new _ _ _) (by kernel_rfl) (by simp) (by simp [Value.oneCell']) ?_)
          intro w5 hB5 hO5
          have ho5 : Only [] w4 w5 := ((Only.refl [] w4).alloc _).trans' hO5 (fun i hi => .inr (by simp at hi; omega))
          have HQ := Lib.hid (show plist n bs nest at_ left [] = .bad p0 e0 ∧ e0 ≠ 0 ∧ Blk w5 r 67 #[.slice (some ⟨g, off, none⟩) bs.length sc, iv p0, iv left4, iv e0] ∧ Only [r] w w5 ∧ Blk w5 w.heap.size 33 zeroV.toArray from
            ⟨HF0.out, by omega, hb4.only ho5 (by simp), (HM.out.only.trans ho4).trans (ho5.mono (by simp)), (HM.out.blk4.only ho4 (by simp; omega)).only ho5 (by simp)⟩)
          have HME := Lib.hid (show todo w5 r bs.length < todo wr r bs.length by rw [HAT.out, todo_bad HQ.out.2.2.1 HQ.out.2.1]; omega)
          clear hB5 hO5 ho5 hb4 ho4
          obtain ⟨hc, hf, hlt⟩ := HQ.out.2.2.1.facts
          have x0 := hc 0
          have x1 := hc 1
          have x2 := hc 2
          have x3 := hc 3
          have f1 := hf 1
          have f2 := hf 2
          simp at x0 x1 x2 x3
          clear hc hf
          go_wp2
          go_roundw
          case measure => exact HME.out
          case rel => exact .inr ⟨p0, e0, left4, HQ⟩
        | ok x q rm' =>
          obtain ⟨cs, S, rfl, hvo, hnd, hge, hps, ho⟩ := hc
          obtain ⟨hq1, hq2, hq3⟩ := HRS.out x q rm' rfl
          obtain ⟨k0, i0, r0, t0, sa0, sn0, sc0, hcs⟩ := hvo.form
          subst hcs
          have HVO := Lib.hid hvo
          have HND := Lib.hid hnd
          have HGE := Lib.hid hge
          have HP4 := Lib.hid hps
          have HM4 := Lib.hid (HM.out.onlyR ho hrl)
          have HS4 := Lib.hid (HS.out.only ho (fun g hg hm => by have := HM.out.ge g (List.mem_append_left _ (by simp [hg])); simp at hm; omega))
          have h24 := ho.size
          clear hvo hnd hge hps ho
          go_wp2_with (refine wpList_store_blk rfl 33 (.tmp 6) (.tmp 50) rfl [iv k0, iv i0, fv r0, .string t0, .slice sa0 sn0 sc0] rfl rfl (Blk.new _ _ _) (by kernel_rfl) (by simp) (by simp [Value.oneCell']) ?_)
          intro w5 hB5 hO5
          have ho5 : Only [] w4 w5 := ((Only.refl [] w4).alloc _).trans' hO5 (fun i hi => .inr (by simp at hi; omega))
          have HB5 := Lib.hid (show Blk w5 w4.heap.size 33 #[iv k0, iv i0, fv r0, .string t0, .slice sa0 sn0 sc0] from hB5)
          have HVO5 := Lib.hid (HVO.out.only ho5 (fun _ _ => by simp))
          have HP5 := Lib.hid (HP4.out.only ho5)
          have HM5 := Lib.hid (HM4.out.onlyR (ho5.mono (by simp)) hrl)
          have HS5 := Lib.hid (HS4.out.only ho5 (fun _ _ => by simp))
          have h25 := Nat.le_trans h24 ho5.size
          clear hB5 hO5 ho5 HVO HP4 HM4 HS4 h24
          obtain ⟨hc, hf, hlt⟩ := HP5.out.blk.facts
          have x0 := hc 0
          have x1 := hc 1
          have x2 := hc 2
          have x3 := hc 3
          have f1 := hf 1
          have f2 := hf 2
          simp at x0 x1 x2 x3
          clear hc hf
          have q0 := HB5.out.cell 0
          have q1 := HB5.out.cell 1
          have q2 := HB5.out.cell 2
          have q3 := HB5.out.cell 3
          have q4 := HB5.out.cell 4
          simp at q0 q1 q2 q3 q4
          have y4 := HM5.out.blk5.cell 4
          simp at y4
          go_wp2_with (at_builtin; refine wpList_append_one (news := [iv k0, iv i0, fv r0, .string t0, .slice sa0 sn0 sc0]) rfl (.tmp 57) (.tmp 59) 31 rfl 33 j33 _ 5 64 Try.underlying31 si sz0 sz1 sz2 rfl (by decide) rfl (HS5.out.alloc _) rfl (Blk.new _ _ _) rfl (by simp [Value.oneCell']) (by unfold maxLen; omega) (by omega) ?_)
          intro v7 w6 hS6 hg6 hat6
          have hoA : Only [] w5 (w5.alloc (.cells #[iv k0, iv i0, fv r0, .string t0, .slice sa0 sn0 sc0] 33)) := (Only.refl _ _).alloc _
          have hMA := HM5.out.onlyR (hoA.mono (T := [r]) (by simp)) hrl
          have hVA := HVO5.out.only hoA (fun _ _ => by simp)
          have hPA := HP5.out.only hoA
          have hol : ∀ g, sv.ownBlock = some g → g < w2.heap.size := fun g hg => HS.out.lt g hg
          have hd := HM5.out.nodup
          have hM6 : LM w w6 r acc css Ss sv := by
            refine hMA.keep (hg6.block _ hMA.blk4.lt ?_) (hg6.block _ hMA.blk5.lt ?_) (fun g hg => hg6.block g (hMA.lt g hg) fun e => ?_) (hMA.only.grown hg6 fun g hg => .inr ?_)
            · intro e; have := HM5.out.ge w.heap.size (List.mem_append_left _ (by simp [← e])); omega
            · intro e; have := HM5.out.ge (w.heap.size + 1) (List.mem_append_left _ (by simp [← e])); omega
            · exact (List.nodup_append.1 hd).2.2 g (by simp [← e]) g hg rfl
            · have := HM5.out.ge g (List.mem_append_left _ (by simp [hg])); omega
          have hV6 : VO w6 x [iv k0, iv i0, fv r0, .string t0, .slice sa0 sn0 sc0] S := hVA.grown hg6 fun g hg e => by have := hol g e; have := HGE.out g hg; omega
          have hP6 : RG w6 G r bs (.slice (some ⟨g, off, none⟩) bs.length sc) q rm' := hPA.grown hg6 (by intro e; have := HM5.out.ge r (List.mem_append_left _ (by simp [e])); omega)
            (by intro g hgg e; have := HM5.out.ge g (List.mem_append_left _ (by simp [e])); have := (HG.out g hgg).2; omega)
          have hown : ∀ g, v7.ownBlock = some g → sv.ownBlock = some g ∨ (w2.heap.size ≤ g ∧ g ∉ S) := fun g hg => by
            rcases hat6 with e | e
            · exact .inl (e ▸ hg)
            · rw [e] at hg
              injection hg with hg
              subst hg
              exact .inr ⟨by omega, fun hm => by have := HVO5.out.lt _ hm; omega⟩
          have h5lt : w.heap.size + 1 < w2.heap.size := HM.out.blk5.lt
          obtain ⟨hLM, hLS⟩ := hM6.more hV6 HND.out HGE.out HM.out.lt hol h5lt hown hS6
          have hO7 : Only [w.heap.size + 1] w6 (w6.setCell ⟨w.heap.size + 1, 4, none⟩ v7) := (Only.refl _ _).setCell (.inl (by simp)) _
          have hP7 := hP6.far hO7 (by simp; omega) (fun g hg hm => by have := (HG.out g hg).2; simp at hm; omega)
          have HR4 := Lib.hid (show LQ w (w6.setCell ⟨w.heap.size + 1, 4, none⟩ v7) G r bs (.slice (some ⟨g, off, none⟩) bs.length sc) nest at_ left n m q rm' (acc ++ [x]) (css ++ [[iv k0, iv i0, fv r0, .string t0, .slice sa0 sn0 sc0]]) (Ss ++ [S]) v7 from
            ⟨HF0.out, by omega, by omega, hq2, by omega, by simp; omega, hP7, hLS, hLM⟩)
          have hqle := hP7.le
          have HME := Lib.hid (show todo (w6.setCell ⟨w.heap.size + 1, 4, none⟩ v7) r bs.length < todo wr r bs.length by rw [HAT.out, todo_good hP7]; omega)
          obtain ⟨a7, c7, hv7⟩ := sl_form hS6
          have z4 := hM6.blk5.cell 4
          have zf4 := hM6.blk5.frozen 4
          have z5 := hM6.blk5.lt
          simp at z4
          rw [hv7] at HR4 HME
          clear hS6 hg6 hat6 hoA hMA hVA hPA hol hd hM6 hV6 hP6 hown hLM hLS hO7 hP7 x0 x1 x2 x3 f1 f2 hlt q0 q1 q2 q3 q4 y4
          subst hv7
          go_wp2
          go_roundw
          case measure => exact HME.out
          case rel => exact .inl ⟨m, q, rm', _, _, _, _, HR4⟩
theorem rall : ∀ n, RLstOk n ∧ RValOk n := by
  intro n
  induction n using Nat.strongRecOn with
  | _ n ih => exact ⟨rlist_step n fun m hm => (ih m hm).2, rval_step n fun m hm => (ih m hm).1⟩

/-- Between two worlds: one struct alone turns, and into one value alone. -/
structure R1 (A : Nat) (Z : Array Value) (x y : World) : Prop where
  only : Only [A] x y
  ra : ∀ cs, Blk x A 33 cs → cs.size = 5 → ∃ cs', Blk y A 33 cs' ∧ cs'.size = 5 ∧ (cs = Z → cs' = Z)
theorem R1.refl {A : Nat} {Z : Array Value} (x : World) : R1 A Z x x := ⟨Only.refl _ _, fun cs h hs => ⟨cs, h, hs, id⟩⟩
theorem R1.trans {A : Nat} {Z : Array Value} {x y z : World} (h : R1 A Z x y) (k : R1 A Z y z) : R1 A Z x z := ⟨h.only.trans k.only, fun cs hb hs => by
  obtain ⟨c2, h2, s2, e2⟩ := h.ra cs hb hs
  obtain ⟨c3, h3, s3, e3⟩ := k.ra c2 h2 s2
  exact ⟨c3, h3, s3, fun e => e3 (e2 e)⟩⟩
theorem R1.set {A : Nat} {Z : Array Value} {x y : World} (ho : Only [A] x y) (hb : Blk y A 33 Z) (hz : Z.size = 5) : R1 A Z x y := ⟨ho, fun _ _ _ => ⟨Z, hb, hz, fun _ => rfl⟩⟩
def BPhi (A r : Nat) (p e : Int) : Nat → Value → World → Prop
  | 0, v, _ => v = .agg zeroV.toArray
  | 1, v, _ => v = .pointer (some ⟨r, 0, none⟩)
  | 2, v, _ => v = .pointer (some ⟨r, 0, none⟩)
  | 3, v, _ => v = .pointer (some ⟨r, 1, none⟩)
  | 4, v, _ => v = iv p
  | 5, v, _ => v = .pointer (some ⟨r, 0, none⟩)
  | 6, v, _ => v = .pointer (some ⟨r, 0, none⟩)
  | 7, v, _ => v = .pointer (some ⟨r, 3, none⟩)
  | 8, v, _ => v = iv e
  | 9, _, w => Blk w A 33 zeroV.toArray
  | 10, v, _ => v = iv p
  | 11, v, _ => v = iv e
  | _, _, _ => True
theorem B_st {A r : Nat} {p e : Int} (i : Nat) (v : Value) (w w' : World) (h : BPhi A r p e i v w) (k : R1 A zeroV.toArray w w') : BPhi A r p e i v w' := by
  match i, h with
  | 0, h => exact h
  | 1, h => exact h
  | 2, h => exact h
  | 3, h => exact h
  | 4, h => exact h
  | 5, h => exact h
  | 6, h => exact h
  | 7, h => exact h
  | 8, h => exact h
  | 9, h =>
    obtain ⟨c, h1, _, h2⟩ := k.ra _ h rfl
    rw [h2 rfl] at h1
    exact h1
  | 10, h => exact h
  | 11, h => exact h
  | n + 12, _ => trivial
def OPhi (A r : Nat) (Z : Array Value) (q : Nat) : Nat → Value → World → Prop
  | 0, v, _ => v = .agg Z
  | 1, v, _ => v = .pointer (some ⟨r, 0, none⟩)
  | 2, v, _ => v = .pointer (some ⟨r, 0, none⟩)
  | 3, v, _ => v = .pointer (some ⟨r, 1, none⟩)
  | 4, v, _ => v = iv q
  | 5, _, w => Blk w A 33 Z
  | 6, v, _ => v = iv q
  | 7, v, _ => v = iv 0
  | _, _, _ => True
theorem O_st {A r : Nat} {Z : Array Value} {q : Nat} (hZ : Z.size = 5) (i : Nat) (v : Value) (w w' : World) (h : OPhi A r Z q i v w) (k : R1 A Z w w') : OPhi A r Z q i v w' := by
  match i, h with
  | 0, h => exact h
  | 1, h => exact h
  | 2, h => exact h
  | 3, h => exact h
  | 4, h => exact h
  | 5, h =>
    obtain ⟨c, h1, _, h2⟩ := k.ra _ h hZ
    rw [h2 rfl] at h1
    exact h1
  | 6, h => exact h
  | 7, h => exact h
  | n + 8, _ => trivial
theorem pread_rval (bs : List Nat) : pread bs = rval (2 * bs.length + 4) bs 0 0 65536 := rfl
set_option maxRecDepth 100000 in
set_option maxHeartbeats 3200000 in
theorem read2_ok {w : World} {F : Nat → Prop} {bs : List Nat} {s : Value} (h : BytesV w F bs s) (hbl : bs.length ≤ 2 ^ 40) : Calls Try.prog 12 #[s] w (ReadPost w (pread bs)) := by
  have HBB := Lib.hid (show ∀ c ∈ bs, c < 256 by obtain ⟨_, _, _, _, _, hb, _⟩ := h; exact hb)
  have hf : ∃ a cap, s = .slice a bs.length cap := by obtain ⟨a, cap, e, _⟩ := h; exact ⟨a, cap, e⟩
  obtain ⟨G, hG⟩ : ∃ G : Nat → Prop, G = fun g => F g ∧ g < w.heap.size := ⟨_, rfl⟩
  have HG := Lib.hid (show ∀ g, G g → g < w.heap.size by rw [hG]; exact fun _ h => h.2)
  have HBV := Lib.hid (show BytesV w G bs s by rw [hG]; exact h.keep (Nat.le_refl _) (fun _ _ _ => rfl) fun g hf hg => ⟨hf, hg⟩)
  clear h hG
  obtain ⟨sa, sc, rfl⟩ := hf
  obtain ⟨w4, hw4⟩ : ∃ x : World, x = (w.alloc (.cells zeroV.toArray 33)).alloc (.cells #[.slice sa bs.length sc, .int .i64 0, .int .i64 65536, .int .i64 0] 67) := ⟨_, rfl⟩
  have HW4 := Lib.hid hw4
  have HO := Lib.hid (show Only [] w w4 by rw [hw4]; exact ((Only.refl _ w).alloc _).alloc _)
  have HA := Lib.hid (show Blk w4 w.heap.size 33 zeroV.toArray by rw [hw4]; exact (Blk.new _ _ _).alloc _)
  have HP := Lib.hid (show RG w4 G (w.heap.size + 1) bs (.slice sa bs.length sc) 0 65536 from ⟨by rw [hw4]; have := Blk.new (w.alloc (.cells zeroV.toArray 33)) 67 #[.slice sa bs.length sc, iv 0, iv 65536, iv 0]; rw [show (w.alloc (.cells zeroV.toArray 33)).heap.size = w.heap.size + 1 by simp] at this; exact this, HBV.out.only HO.out (fun _ _ => by simp), fun hg => by have := HG.out _ hg; omega, Nat.zero_le _⟩)
  have HV := Lib.hid ((rall (2 * bs.length + 4)).2 w4 G (w.heap.size + 1) bs (.slice sa bs.length sc) 0 0 65536 HP.out (by omega) (by omega) hbl (by omega) (by omega))
  rw [← pread_rval] at HV
  have HRB := Lib.hid (fun (p e : Int) (h : pread bs = .bad p e) => read_bad HBB.out h)
  clear hw4
  go_enter Try.func12, Try.ntmps12
  go_wp2_with fail
  rw [← HW4.out]
  refine HV.out.mono ?_
  clear HV
  intro e w5 hv
  unfold RValPost at hv
  generalize pread bs = res at *
  cases res with
  | bad p0 e0 =>
    obtain ⟨rfl, ⟨left5, hb5⟩, ho5⟩ := hv
    have he := HRB.out p0 e0 rfl
    have hez : (e0 != 0) = true := by rw [bne_iff_ne]; omega
    go_wp2_with (refine wpList_store_blk rfl 33 (.tmp 6) (.tmp 11) rfl zeroV rfl rfl (Blk.new _ _ _) (by kernel_rfl) (by simp) (by simp [Value.oneCell']) ?_)
    intro w6 hB6 hO6
    have ho6 : Only [] w5 w6 := ((Only.refl [] w5).alloc _).trans' hO6 (fun i hi => .inr (by simp at hi; omega))
    have HR6 := Lib.hid (hb5.only ho6 (by simp))
    have HA6 := Lib.hid ((HA.out.only ho5 (by simp)).only ho6 (by simp))
    have HO6 := Lib.hid (show Only [] w w6 from (HO.out.trans' ho5 (fun i hi => .inr (by simp at hi; omega))).trans ho6)
    clear hB6 hO6 ho6 hb5 ho5
    have x1 := HR6.out.cell 1
    have x3 := HR6.out.cell 3
    simp at x1 x3
    go_wp2
    refine Lex.wp_region_each (by kernel_rfl) [[], [], [1], [2], [3], [], [5], [6], [7], [0], [4], [8]] (by kernel_rfl) (by rfl) (R1 w.heap.size zeroV.toArray) R1.refl (fun _ _ _ => R1.trans)
      (BPhi w.heap.size (w.heap.size + 1) p0 e0) (fun i v w w' h k => B_st i v w w' h k) ?_ ?_
    · intro i o ho w8 hR
      have HR := Lib.hid hR
      clear hR x1 x3
      rcases i with _ | _ | _ | _ | _ | _ | _ | _ | _ | _ | _ | _ | i
      ·
        injection ho with ho
        subst ho
        show wpList _ _ _ _ _ _
        go_wp2
        exact ⟨rfl, R1.refl _, rfl⟩
      ·
        injection ho with ho
        subst ho
        show wpList _ _ _ _ _ _
        go_wp2
        exact ⟨rfl, R1.refl _, rfl⟩
      ·
        injection ho with ho
        subst ho
        intro v hv
        obtain rfl : v = .pointer (some ⟨w.heap.size + 1, 0, none⟩) := hv
        simp only [Lex.dstOf, List.getElem?_cons_zero, List.getElem?_cons_succ, Option.bind_some]
        show wpList _ _ _ _ _ _
        go_wp2
        exact ⟨rfl, R1.refl _, rfl⟩
      ·
        injection ho with ho
        subst ho
        intro v hv
        obtain rfl : v = .pointer (some ⟨w.heap.size + 1, 0, none⟩) := hv
        simp only [Lex.dstOf, List.getElem?_cons_zero, List.getElem?_cons_succ, Option.bind_some]
        show wpList _ _ _ _ _ _
        go_wp2
        exact ⟨rfl, R1.refl _, rfl⟩
      · have x1 := (HR6.out.drew.only HR.out.only (by simp)).cell 1
        simp at x1
        injection ho with ho
        subst ho
        intro v hv
        obtain rfl : v = .pointer (some ⟨w.heap.size + 1, 1, none⟩) := hv
        simp only [Lex.dstOf, List.getElem?_cons_zero, List.getElem?_cons_succ, Option.bind_some]
        show wpList _ _ _ _ _ _
        go_wp2
        exact ⟨rfl, R1.refl _, rfl⟩
      ·
        injection ho with ho
        subst ho
        show wpList _ _ _ _ _ _
        go_wp2
        exact ⟨rfl, R1.refl _, rfl⟩
      ·
        injection ho with ho
        subst ho
        intro v hv
        obtain rfl : v = .pointer (some ⟨w.heap.size + 1, 0, none⟩) := hv
        simp only [Lex.dstOf, List.getElem?_cons_zero, List.getElem?_cons_succ, Option.bind_some]
        show wpList _ _ _ _ _ _
        go_wp2
        exact ⟨rfl, R1.refl _, rfl⟩
      ·
        injection ho with ho
        subst ho
        intro v hv
        obtain rfl : v = .pointer (some ⟨w.heap.size + 1, 0, none⟩) := hv
        simp only [Lex.dstOf, List.getElem?_cons_zero, List.getElem?_cons_succ, Option.bind_some]
        show wpList _ _ _ _ _ _
        go_wp2
        exact ⟨rfl, R1.refl _, rfl⟩
      · have x3 := (HR6.out.drew.only HR.out.only (by simp)).cell 3
        simp at x3
        injection ho with ho
        subst ho
        intro v hv
        obtain rfl : v = .pointer (some ⟨w.heap.size + 1, 3, none⟩) := hv
        simp only [Lex.dstOf, List.getElem?_cons_zero, List.getElem?_cons_succ, Option.bind_some]
        show wpList _ _ _ _ _ _
        go_wp2
        exact ⟨rfl, R1.refl _, rfl⟩
      · injection ho with ho
        subst ho
        obtain ⟨ca, hba, _, hcz⟩ := HR.out.ra _ HA6.out.drew rfl
        obtain rfl := hcz rfl
        intro v hv
        obtain rfl : v = .agg zeroV.toArray := hv
        simp only [Lex.dstOf, List.getElem?_cons_zero, List.getElem?_cons_succ, Option.bind_some]
        show wpList _ _ _ _ _ _
        go_wp2_with (refine wpList_store_blk rfl 33 (.tmp 2) (.tmp 17) rfl zeroV rfl rfl hba (by kernel_rfl) (by simp) (by simp [Value.oneCell']) ?_)
        intro w9 hA2 hO2
        have HA3 := Lib.hid (show Blk w9 w.heap.size 33 zeroV.toArray from hA2)
        have HO2 := Lib.hid hO2
        clear hA2 hO2 hba
        go_wp2
        exact ⟨HA3.out, R1.set HO2.out HA3.out rfl, rfl⟩
      ·
        injection ho with ho
        subst ho
        intro v hv
        obtain rfl : v = iv p0 := hv
        simp only [Lex.dstOf, List.getElem?_cons_zero, List.getElem?_cons_succ, Option.bind_some]
        show wpList _ _ _ _ _ _
        go_wp2
        exact ⟨rfl, R1.refl _, rfl⟩
      ·
        injection ho with ho
        subst ho
        intro v hv
        obtain rfl : v = iv e0 := hv
        simp only [Lex.dstOf, List.getElem?_cons_zero, List.getElem?_cons_succ, Option.bind_some]
        show wpList _ _ _ _ _ _
        go_wp2
        exact ⟨rfl, R1.refl _, rfl⟩
      · cases ho
    · intro w8 hR
      have HR := Lib.hid hR
      clear hR x1 x3
      show ∀ v0, _ → ∀ v1, _ → ∀ v2, _ → ∀ v3, _ → ∀ v4, _ → ∀ v5, _ → ∀ v6, _ → ∀ v7, _ → ∀ v8, _ → ∀ v9, _ → ∀ v10, _ → ∀ v11, _ → Exit.then _ _ _ _ _
      intro v0 _ v1 _ v2 _ v3 _ v4 _ v5 _ v6 _ v7 _ v8 _ v9 h9 v10 h10 v11 h11
      obtain rfl : v10 = iv p0 := h10
      obtain rfl : v11 = iv e0 := h11
      have HB9 := Lib.hid (show Blk w8 w.heap.size 33 zeroV.toArray from h9)
      clear h9
      simp only [Lex.dstOf, List.getElem?_cons_zero, List.getElem?_cons_succ, Option.bind_some]
      go_wp2
      refine bodyPost_ret (results3 rfl (res_blk (cs := zeroV) Try.underlying33 (by kernel_rfl) rfl HB9.out) (res_tmp rfl) (res_tmp rfl)) rfl ?_
      exact ⟨rfl, HO6.out.trans' ((Only.refl [w.heap.size] w6).drew.trans HR.out.only) fun i hi => .inr (by simp at hi; omega)⟩
  | ok v q rm =>
    obtain ⟨cs, S, rfl, hvo, hnd, hge, hps, ho⟩ := hv
    obtain ⟨k0, i0, r0, t0, sa0, sn0, sc0, rfl⟩ := hvo.form
    have h45 : w.heap.size + 1 < w4.heap.size := HP.out.blk.lt
    go_wp2_with (refine wpList_store_blk rfl 33 (.tmp 6) (.tmp 11) rfl [iv k0, iv i0, fv r0, .string t0, .slice sa0 sn0 sc0] rfl rfl (Blk.new _ _ _) (by kernel_rfl) (by simp) (by simp [Value.oneCell']) ?_)
    intro w6 hB6 hO6
    have ho6 : Only [] w5 w6 := ((Only.refl [] w5).alloc _).trans' hO6 (fun i hi => .inr (by simp at hi; omega))
    have HB6 := Lib.hid (show Blk w6 w5.heap.size 33 #[iv k0, iv i0, fv r0, .string t0, .slice sa0 sn0 sc0] from hB6)
    have HR6 := Lib.hid (hps.only ho6)
    have HA6 := Lib.hid ((HA.out.only ho (by simp)).only ho6 (by simp))
    have HV6 := Lib.hid (hvo.only ho6 (fun _ _ => by simp))
    have HGE := Lib.hid hge
    have HND := Lib.hid hnd
    have h56 := ho.size
    have HO6 := Lib.hid (show Only [] w w6 from (HO.out.trans' ho (fun i hi => .inr (by simp at hi; omega))).trans ho6)
    clear hB6 hO6 ho6 hps ho hvo hge hnd
    have x3 := HR6.out.blk.cell 3
    simp at x3
    go_wp2
    clear x3
    have hZ : (#[iv k0, iv i0, fv r0, .string t0, .slice sa0 sn0 sc0] : Array Value).size = 5 := rfl
    have hne : w5.heap.size ≠ w.heap.size := by omega
    refine Lex.wp_region_each (by kernel_rfl) [[], [], [1], [2], [3], [0], [4], []] (by kernel_rfl) (by rfl) (R1 w.heap.size #[iv k0, iv i0, fv r0, .string t0, .slice sa0 sn0 sc0]) R1.refl (fun _ _ _ => R1.trans)
      (OPhi w.heap.size (w.heap.size + 1) #[iv k0, iv i0, fv r0, .string t0, .slice sa0 sn0 sc0] q) (fun i v w w' h k => O_st hZ i v w w' h k) ?_ ?_
    · intro i o ho w8 hR
      have HR := Lib.hid hR
      clear hR
      rcases i with _ | _ | _ | _ | _ | _ | _ | _ | i
      · have hb := HB6.out.drew.only HR.out.only (by simp; omega)
        have x0 := hb.cell 0
        have x1 := hb.cell 1
        have x2 := hb.cell 2
        have x3 := hb.cell 3
        have x4 := hb.cell 4
        simp at x0 x1 x2 x3 x4
        clear hb
        injection ho with ho
        subst ho
        show wpList _ _ _ _ _ _
        go_wp2
        exact ⟨rfl, R1.refl _, rfl⟩
      ·
        injection ho with ho
        subst ho
        show wpList _ _ _ _ _ _
        go_wp2
        exact ⟨rfl, R1.refl _, rfl⟩
      ·
        injection ho with ho
        subst ho
        intro v hv
        obtain rfl : v = .pointer (some ⟨w.heap.size + 1, 0, none⟩) := hv
        simp only [Lex.dstOf, List.getElem?_cons_zero, List.getElem?_cons_succ, Option.bind_some]
        show wpList _ _ _ _ _ _
        go_wp2
        exact ⟨rfl, R1.refl _, rfl⟩
      ·
        injection ho with ho
        subst ho
        intro v hv
        obtain rfl : v = .pointer (some ⟨w.heap.size + 1, 0, none⟩) := hv
        simp only [Lex.dstOf, List.getElem?_cons_zero, List.getElem?_cons_succ, Option.bind_some]
        show wpList _ _ _ _ _ _
        go_wp2
        exact ⟨rfl, R1.refl _, rfl⟩
      · have x1 := (HR6.out.blk.drew.only HR.out.only (by simp)).cell 1
        simp at x1
        injection ho with ho
        subst ho
        intro v hv
        obtain rfl : v = .pointer (some ⟨w.heap.size + 1, 1, none⟩) := hv
        simp only [Lex.dstOf, List.getElem?_cons_zero, List.getElem?_cons_succ, Option.bind_some]
        show wpList _ _ _ _ _ _
        go_wp2
        exact ⟨rfl, R1.refl _, rfl⟩
      · injection ho with ho
        subst ho
        obtain ⟨ca, hba, hca, _⟩ := HR.out.ra _ HA6.out.drew rfl
        intro v hv
        obtain rfl : v = .agg #[iv k0, iv i0, fv r0, .string t0, .slice sa0 sn0 sc0] := hv
        simp only [Lex.dstOf, List.getElem?_cons_zero, List.getElem?_cons_succ, Option.bind_some]
        show wpList _ _ _ _ _ _
        go_wp2_with (refine wpList_store_blk rfl 33 (.tmp 2) (.tmp 26) rfl [iv k0, iv i0, fv r0, .string t0, .slice sa0 sn0 sc0] rfl rfl hba (by kernel_rfl) (by simp [hca]) (by simp [Value.oneCell']) ?_)
        intro w9 hA2 hO2
        have HA3 := Lib.hid (show Blk w9 w.heap.size 33 #[iv k0, iv i0, fv r0, .string t0, .slice sa0 sn0 sc0] by
          have h := hA2
          rw [show ca.toList.drop 5 = [] from List.drop_eq_nil_of_le (by simp [hca])] at h
          exact h)
        have HO2 := Lib.hid hO2
        clear hA2 hO2 hba
        go_wp2
        exact ⟨HA3.out, R1.set HO2.out HA3.out rfl, rfl⟩
      ·
        injection ho with ho
        subst ho
        intro v hv
        obtain rfl : v = iv q := hv
        simp only [Lex.dstOf, List.getElem?_cons_zero, List.getElem?_cons_succ, Option.bind_some]
        show wpList _ _ _ _ _ _
        go_wp2
        exact ⟨rfl, R1.refl _, rfl⟩
      ·
        injection ho with ho
        subst ho
        show wpList _ _ _ _ _ _
        go_wp2
        exact ⟨rfl, R1.refl _, rfl⟩
      · cases ho
    · intro w8 hR
      have HR := Lib.hid hR
      clear hR
      show ∀ v0, _ → ∀ v1, _ → ∀ v2, _ → ∀ v3, _ → ∀ v4, _ → ∀ v5, _ → ∀ v6, _ → ∀ v7, _ → Exit.then _ _ _ _ _
      intro v0 _ v1 _ v2 _ v3 _ v4 _ v5 h5 v6 h6 v7 h7
      obtain rfl : v6 = iv q := h6
      obtain rfl : v7 = iv 0 := h7
      have HB9 := Lib.hid (show Blk w8 w.heap.size 33 #[iv k0, iv i0, fv r0, .string t0, .slice sa0 sn0 sc0] from h5)
      clear h5
      simp only [Lex.dstOf, List.getElem?_cons_zero, List.getElem?_cons_succ, Option.bind_some]
      go_wp2
      refine bodyPost_ret (results3 rfl (res_blk (cs := [iv k0, iv i0, fv r0, .string t0, .slice sa0 sn0 sc0]) Try.underlying33 (by kernel_rfl) rfl HB9.out) (res_tmp rfl) (res_tmp rfl)) rfl ?_
      exact ⟨_, S, rfl, HV6.out.only ((Only.refl [w.heap.size] w6).drew.trans HR.out.only) (fun g hg hm => by have := HGE.out g hg; simp at hm; omega), HND.out, (fun g hg => by have := HGE.out g hg; omega), HO6.out.trans' ((Only.refl [w.heap.size] w6).drew.trans HR.out.only) fun i hi => .inr (by simp at hi; omega)⟩
end Go.Proofs.Ytffdfegelgpniaa
