/-
  The document's reading: a text.
-/
import Derived.Test.YtffdfegelgpniaaZCa
set_option linter.unusedSimpArgs false
set_option linter.unusedVariables false
set_option linter.unusedSimpArgs false
set_option linter.unusedVariables false
namespace Go.Proofs.Ytffdfegelgpniaa
open Go.RowKit Go.Fl

theorem RG.strict {w : World} {F : Nat → Prop} {r : Nat} {bs : List Nat} {s : Value} {at_ : Nat} {left : Int} (h : RG w F r bs s at_ left) : RG w (fun g => F g ∧ g < w.heap.size) r bs s at_ left :=
  ⟨h.blk, h.bytes.keep (Nat.le_refl _) (fun _ _ _ => rfl) (fun g hf hg => ⟨hf, hg⟩), fun hh => h.out hh.1, h.le⟩
theorem RG.mono {w : World} {F F' : Nat → Prop} {r : Nat} {bs : List Nat} {s : Value} {at_ : Nat} {left : Int} (h : RG w F r bs s at_ left) (hF : ∀ g, F g → F' g) (hr : ¬ F' r) : RG w F' r bs s at_ left :=
  ⟨h.blk, h.bytes.keep (Nat.le_refl _) (fun _ _ _ => rfl) (fun g hf _ => hF g hf), hr, h.le⟩
theorem RG.grown {w w' : World} {F : Nat → Prop} {r : Nat} {bs : List Nat} {s : Value} {at_ : Nat} {left : Int} {row : Option Nat} (h : RG w F r bs s at_ left) (hg : w.grownBy w' row) (hr : row ≠ some r) (hF : ∀ g, F g → row ≠ some g) : RG w' F r bs s at_ left :=
  ⟨(hg.block r h.blk.lt (fun e => hr e.symm)).trans h.blk, h.bytes.keep hg.size (fun g hf hl => hg.block g hl (fun e => hF g hf e.symm)) (fun g hf _ => hf), h.out, h.le⟩
theorem RG.at_of {w : World} {F : Nat → Prop} {r : Nat} {bs : List Nat} {s : Value} {at_ : Nat} {left : Int} (h : RG w F r bs s at_ left) : atOf w r = at_ := by
  unfold atOf
  rw [h.blk.cell 1]
  simp [intOf]
/-- One byte taken. -/
theorem RG.step {w : World} {F : Nat → Prop} {r : Nat} {bs : List Nat} {s : Value} {at_ : Nat} {left : Int} (h : RG w F r bs s at_ left) (hl : at_ < bs.length) : RG (w.setCell ⟨r, 1, none⟩ (.int .i64 (at_ + 1))) F r bs s (at_ + 1) left :=
  h.put (show Blk (w.setCell ⟨r, 1, none⟩ (.int .i64 (at_ + 1))) r 67 #[s, iv (at_ + 1 : Nat), iv left, iv 0] from h.blk.set_ 1 _) ((Only.refl _ _).setCell (.inl (by simp)) _) (by omega)
def Text2 (w : World) (F : Nat → Prop) (r : Nat) (bs : List Nat) (s : Value) (p left : Int) (res : TR) (e : Ending) (w' : World) : Prop :=
  match res with
  | .short => e = .returned (.agg zeroV.toArray) ∧ Failed w w' r s bs.length 2
  | .form q => e = .returned (.agg zeroV.toArray) ∧ Failed w w' r s q 4
  | .done t q => if left - (1 + (t.length : Int)) < 0 then e = .returned (.agg zeroV.toArray) ∧ Failed w w' r s p 3
    else e = .returned (cellsOfText t) ∧ RG w' F r bs s q (left - (1 + (t.length : Int))) ∧ Only [r] w w'
structure TxG (w wr : World) (F : Nat → Prop) (r : Nat) (bs : List Nat) (s : Value) (left : Int) (at_ pos : Nat) (acc : List Nat) (v : Value) : Prop where
  byte : ∀ c ∈ acc, c < 256
  len : acc.length ≤ pos
  eq : ptext (bs.drop at_) at_ [] = ptext (bs.drop pos) pos acc
  sl : Sl wr 5 1 v acc.length (acc.map bv)
  own : ∀ g, v.ownBlock = some g → w.heap.size + 1 ≤ g
  ps : RG wr F r bs s pos left
  only : Only [r] w wr
  blk : Blk wr w.heap.size 33 #[iv 0, iv 0, fv 0, .string ⟨#[]⟩, .slice none 0 0]
theorem TxG.next {w wr w2 : World} {F : Nat → Prop} {r : Nat} {bs : List Nat} {s : Value} {left : Int} {at_ pos pos2 : Nat} {acc : List Nat} {v : Value} (h : TxG w wr F r bs s left at_ pos acc v) (hr : r < w.heap.size) (hp : RG w2 F r bs s pos2 left) (ho : Only [r] wr w2) :
    Sl w2 5 1 v acc.length (acc.map bv) ∧ RG w2 F r bs s pos2 left ∧ Only [r] w w2 ∧ Blk w2 w.heap.size 33 #[iv 0, iv 0, fv 0, .string ⟨#[]⟩, .slice none 0 0] :=
  ⟨h.sl.only ho (fun g hg hm => by have := h.own g hg; simp at hm; omega), hp, h.only.trans ho, h.blk.only ho (by simp; omega)⟩
set_option maxRecDepth 100000 in
set_option maxHeartbeats 3200000 in
theorem text2_ok {w : World} {F : Nat → Prop} {r : Nat} {bs : List Nat} {s : Value} {at_ : Nat} {left : Int} (h : RG w F r bs s at_ left) (p : Int) (h0 : 0 ≤ left) (h1 : left ≤ 65536) (hbl : bs.length ≤ 2 ^ 40) :
    Calls Try.prog 55 #[.pointer (some ⟨r, 0, none⟩), iv p] w (Text2 w F r bs s p left (ptext (bs.drop at_) at_ [])) := by
  obtain ⟨j5, si, sz0, sz1, sz2⟩ := info_parts info5
  have hFr := h.out
  have hst := h.strict
  have HBB := Lib.hid (show ∀ c ∈ bs, c < 256 by obtain ⟨_, _, _, _, _, hb, _⟩ := h.bytes; exact hb)
  have hrl := h.blk.lt
  have hform : ∃ sa sc, s = .slice sa bs.length sc := by obtain ⟨a, cap, e, _⟩ := h.bytes; exact ⟨a, cap, e⟩
  obtain ⟨sa, sc, rfl⟩ := hform
  clear h
  obtain ⟨G, hG⟩ : ∃ G : Nat → Prop, G = fun g => F g ∧ g < w.heap.size := ⟨_, rfl⟩
  rw [← hG] at hst
  have HG := Lib.hid (show ∀ g, G g → F g ∧ g < w.heap.size by rw [hG]; exact fun _ h => h)
  have H := Lib.hid hst
  clear hst hG
  go_enter Try.func55, Try.ntmps55
  go_wp2
  obtain ⟨w0, hw0⟩ : ∃ x : World, x = w.alloc (.cells #[.int .i64 0, .int .i64 0, .float .f64 0, .string ⟨#[]⟩, .slice none 0 0] 33) := ⟨_, rfl⟩
  have HW0 := Lib.hid hw0
  have HR0 := Lib.hid (show TxG w w0 G r bs (.slice sa bs.length sc) left at_ at_ [] (.slice none 0 0) from by
    rw [hw0]
    exact ⟨fun c hc => by (cases hc), Nat.zero_le _, rfl, Sl.nil _ _ _, fun g hg => by (cases hg), H.out.only ((Only.refl _ w).alloc _), (Only.refl _ w).alloc _, Blk.new _ _ _⟩)
  clear hw0
  rw [← HW0.out]
  go_loopw [5] (fun v wr => ∃ (pos : Nat) (acc : List Nat), Hid (TxG w wr G r bs (.slice sa bs.length sc) left at_ pos acc v)) (fun _ wr => bs.length - atOf wr r)
  case atStart => exact ⟨at_, [], HR0⟩
  case round =>
    obtain ⟨pos, acc, HR⟩ := hrel
    obtain ⟨va, vc, hv, _, _⟩ := HR.out.sl.shape
    subst hv
    have HAT := Lib.hid HR.out.ps.at_of
    have hlen := HR.out.len
    have hple := HR.out.ps.le
    obtain ⟨hc, hf, hlt⟩ := HR.out.ps.blk.facts
    have x0 := hc 0
    have x1 := hc 1
    have x2 := hc 2
    have x3 := hc 3
    have f1 := hf 1
    have f2 := hf 2
    simp at x0 x1 x2 x3
    clear hc hf
    by_cases hp : pos < bs.length
    · have hpz : (pos : Int) < (bs.length : Int) := by omega
      have hcb := HBB.out _ (List.getElem_mem hp)
      have HE := Lib.hid (show ptext (bs.drop at_) at_ [] = ptext (bs[pos] :: bs.drop (pos + 1)) pos acc by rw [HR.out.eq, List.drop_eq_getElem_cons hp])
      obtain ⟨sa', sc', es, _, _, _, hcell⟩ := HR.out.ps.bytes
      injection es with e1 _ e3
      subst e1
      subst e3
      obtain ⟨g, off, rfl, hg, hgG, hcc⟩ := hcell (by omega)
      have y0 := hcc pos hp
      have hgr : g ≠ r := fun e => HR.out.ps.out (e ▸ hgG)
      have HCC := Lib.hid hcc
      obtain ⟨w2, hw2⟩ : ∃ x : World, x = (wr.setCell ⟨r, 1, none⟩ (.int .i64 (pos + 1))).drew.drew := ⟨_, rfl⟩
      have HN := Lib.hid (show Sl w2 5 1 (.slice va acc.length vc) acc.length (acc.map bv) ∧ RG w2 G r bs (.slice (some ⟨g, off, none⟩) bs.length sc) (pos + 1) left ∧ Only [r] w w2 ∧ Blk w2 w.heap.size 33 #[iv 0, iv 0, fv 0, .string ⟨#[]⟩, .slice none 0 0] by
        rw [hw2]
        exact HR.out.next hrl ((HR.out.ps.step hp).only (Only.refl [] _).drew.drew) ((Only.refl [r] wr).setCell (.inl (by simp)) _).drew.drew)
      have HG2 := Lib.hid (show g < w2.heap.size by have := HN.out.2.2.1.size; have := (HG.out g hgG).2; omega)
      clear hcell hcc
      generalize hce : bs[pos] = c at *
      clear hce
      go_wp2
      refine Lex.wp_region_text (by kernel_rfl) (by kernel_rfl) ?_
      go_wp2
      refine Lex.sq_done (by rfl) ?_
      go_wp2
      refine Lex.wp_region_text (by kernel_rfl) (by kernel_rfl) ?_
      go_wp2
      refine Lex.sq_done (by rfl) ?_
      go_upto_region 5 with fail
      rw [← hw2]
      clear hw2 x0 x1 x2 x3 f1 f2 y0 hlt
      by_cases hz : c = 0
      · subst hz
        obtain ⟨hc, hf, hlt⟩ := HN.out.2.1.blk.facts
        have x0 := hc 0
        have x1 := hc 1
        have x2 := hc 2
        have x3 := hc 3
        have f1 := hf 1
        have f2 := hf 2
        simp at x0 x1 x2 x3
        clear hc hf
        by_cases hp2 : pos + 1 < bs.length
        · have hp2z : ((pos : Int) + 1 == (bs.length : Int)) = false := by rw [beq_eq_false_iff_ne]; omega
          have hdb := HBB.out _ (List.getElem_mem hp2)
          rw [List.drop_eq_getElem_cons hp2] at HE
          obtain ⟨sa', sc', es, _, _, _, hcell⟩ := HN.out.2.1.bytes
          injection es with e1 _ e3
          subst e1
          subst e3
          obtain ⟨g', off', e1, _, _, hcc⟩ := hcell (by omega)
          injection e1 with e1
          injection e1 with e1 e2
          subst e1
          subst e2
          have y0 := hcc (pos + 1) hp2
          have y1 := y0
          rw [← Nat.add_assoc] at y1
          have hp2l : (pos : Int) + 1 < (bs.length : Int) := by omega
          clear hcell hcc
          generalize hde : bs[pos + 1] = d at *
          clear hde
          by_cases d1 : d = 1
          · subst d1
            have HF := Lib.hid (show ptext (bs.drop at_) at_ [] = .done acc (pos + 2) by rw [HE.out]; rfl)
            clear HE
            by_cases hrm : left - (1 + (acc.length : Int)) < 0
            · have hrz : left < 1 + (acc.length : Int) := by omega
              go_wp2
              refine Lex.wp_region_text (by kernel_rfl) (by kernel_rfl) ?_
              go_wp2
              refine Lex.sq_done (by rfl) ?_
              go_wp2
              refine Lex.wp_region_text (by kernel_rfl) (by kernel_rfl) ?_
              go_wp2
              refine Lex.sq_done (by rfl) ?_
              go_wp2_with fail
              have hst := HN.out.2.1.step hp2
              rw [show ((pos + 1 : Nat) : Int) + 1 = (pos : Int) + 1 + 1 by omega] at hst
              have HOB := Lib.hid (show Only [r] w (w2.setCell ⟨r, 1, none⟩ (.int .i64 ((pos : Int) + 1 + 1))).drew.drew ∧ Blk (w2.setCell ⟨r, 1, none⟩ (.int .i64 ((pos : Int) + 1 + 1))).drew.drew w.heap.size 33 zeroV.toArray from
                ⟨(HN.out.2.2.1.setCell (.inl (by simp)) _).drew.drew, (HN.out.2.2.2.far (by simp; omega) _).drew.drew⟩)
              refine (fail2_ok hst.blk.drew.drew p 3).mono ?_
              rintro e w8 ⟨rfl, ⟨left8, hb8⟩, ho8⟩
              have hz8 := HOB.out.2.only ho8 (by simp; omega)
              have HB8 := Lib.hid hb8
              have HO8 := Lib.hid (HOB.out.1.trans ho8)
              clear hb8 ho8
              go_wp2_with (refine wpList_store_blk rfl 33 (.tmp 4) (.tmp 99) rfl zeroV rfl rfl hz8 (by kernel_rfl) (by simp) (by simp [Value.oneCell']) ?_)
              intro w9 hB9 hO9
              have HB9 := Lib.hid (show Blk w9 w.heap.size 33 zeroV.toArray from hB9)
              have HO9 := Lib.hid hO9
              clear hB9 hO9 hz8
              go_wp2
              refine bodyPost_ret (results1 rfl (res_blk (cs := zeroV) Try.underlying33 (by kernel_rfl) rfl HB9.out)) rfl ?_
              rw [HF.out]
              show (if _ then _ else _)
              rw [if_pos hrm]
              exact ⟨rfl, ⟨left8, HB8.out.only HO9.out (by simp; omega)⟩, HO8.out.trans' HO9.out fun i hi => .inr (by simp at hi; omega)⟩
            · have hrz : ¬ left < 1 + (acc.length : Int) := by omega
              go_wp2
              refine Lex.wp_region_text (by kernel_rfl) (by kernel_rfl) ?_
              go_wp2
              refine Lex.sq_done (by rfl) ?_
              go_wp2
              refine Lex.wp_region_text (by kernel_rfl) (by kernel_rfl) ?_
              go_wp2
              refine Lex.sq_done (by rfl) ?_
              have hst := HN.out.2.1.step hp2
              rw [show ((pos + 1 : Nat) : Int) + 1 = (pos : Int) + 1 + 1 by omega] at hst
              obtain ⟨w5, hw5⟩ : ∃ x : World, x = ((w2.setCell ⟨r, 1, none⟩ (.int .i64 ((pos : Int) + 1 + 1))).setCell ⟨r, 2, none⟩ (.int .i64 (left - 1 - (acc.length : Int)))).drew.drew := ⟨_, rfl⟩
              have HPS := Lib.hid (show RG w5 G r bs (.slice (some ⟨g, off, none⟩) bs.length sc) (pos + 2) (left - (1 + (acc.length : Int))) by
                rw [hw5, show left - (1 + (acc.length : Int)) = left - 1 - (acc.length : Int) by omega]
                exact (hst.put (show Blk ((w2.setCell ⟨r, 1, none⟩ (.int .i64 ((pos : Int) + 1 + 1))).setCell ⟨r, 2, none⟩ (.int .i64 (left - 1 - (acc.length : Int)))) r 67 #[.slice (some ⟨g, off, none⟩) bs.length sc, iv (pos + 2 : Nat), iv (left - 1 - (acc.length : Int)), iv 0] from hst.blk.set_ 2 _) ((Only.refl _ _).setCell (.inl (by simp)) _) (by omega)).only (Only.refl _ _).drew.drew)
              have HO := Lib.hid (show Only [r] w w5 by
                rw [hw5]
                exact ((HN.out.2.2.1.setCell (.inl (by simp)) _).setCell (.inl (by simp)) _).drew.drew)
              have ho25 : Only [r] w2 w5 := by
                rw [hw5]
                exact (((Only.refl _ _).setCell (.inl (by simp)) _).setCell (.inl (by simp)) _).drew.drew
              have hB : Blk w5 w.heap.size 33 #[iv 0, iv 0, fv 0, .string ⟨#[]⟩, .slice none 0 0] := HN.out.2.2.2.only ho25 (by simp; omega)
              have hcv := conv_sl (HN.out.1.only ho25 (fun g hg hm => by have := HR.out.own g hg; simp at hm; omega)) HR.out.byte
              rw [hw5] at hB hcv
              clear ho25 HN HR
              go_wp2_with (refine wpList_store_blk rfl 33 (.tmp 4) (.tmp 113) rfl [iv 5, iv 0, fv 0, .string (strB acc), .slice none 0 0] rfl rfl hB (by kernel_rfl) (by simp) (by simp [Value.oneCell']) ?_)
              rw [← hw5]
              intro w6 hB6 hO6
              clear hcv hB
              have HB6 := Lib.hid hB6
              have HO6 := Lib.hid hO6
              clear hB6 hO6
              go_wp2
              refine bodyPost_ret (results1 rfl (res_blk (cs := [iv 5, iv 0, fv 0, .string (strB acc), .slice none 0 0]) Try.underlying33 (by kernel_rfl) rfl HB6.out)) rfl ?_
              rw [HF.out]
              show (if _ then _ else _)
              rw [if_neg (by omega)]
              refine ⟨rfl, ?_, HO.out.trans' HO6.out (fun i hi => .inr (by simp at hi; omega))⟩
              exact (HPS.out.far HO6.out (by simp; omega) (fun g hg hm => by have := (HG.out g hg).2; simp at hm; omega)).mono (fun g hg => (HG.out g hg).1) hFr
          by_cases d2 : d = 255
          · subst d2
            have HF := Lib.hid (show ptext (bs.drop at_) at_ [] = ptext (bs.drop (pos + 2)) (pos + 2) (acc ++ [0]) by rw [HE.out]; rfl)
            clear HE
            go_wp2
            refine Lex.wp_region_text (by kernel_rfl) (by kernel_rfl) ?_
            go_wp2
            refine Lex.sq_done (by rfl) ?_
            go_wp2
            refine Lex.wp_region_text (by kernel_rfl) (by kernel_rfl) ?_
            go_wp2
            refine Lex.sq_done (by rfl) ?_
            go_wp2_with (at_builtin; refine wpList_append_one (news := [bv 0]) rfl (.tmp 70) (.tmp 71) 28 rfl 5 j5 _ 1 1 Try.underlying28 si sz0 sz1 sz2 rfl (by decide) rfl (HN.out.1.drew.drew.alloc _) rfl (Blk.new _ _ _) rfl (by simp [Value.oneCell']) (by unfold maxLen; omega) (by omega) ?_)
            intro v4 w4 hS hg hat
            have hp4 : RG w4 G r bs (.slice (some ⟨g, off, none⟩) bs.length sc) (pos + 1) left := by
              refine (HN.out.2.1.only ((Only.refl _ _).drew.drew.alloc _)).grown hg ?_ ?_
              · intro e; have := HR.out.own r e; omega
              · intro g hgg e; have := HR.out.own g e; have := (HG.out g hgg).2; omega
            have hst := hp4.step hp2
            rw [show ((pos + 1 : Nat) : Int) + 1 = (pos : Int) + 1 + 1 by omega] at hst
            have ho4 : Only [r] w w4 := (HN.out.2.2.1.drew.drew.alloc _).grown hg fun g hg2 => by have := HR.out.own g hg2; exact .inr (by omega)
            have hB4 : Blk w4 w.heap.size 33 #[iv 0, iv 0, fv 0, .string ⟨#[]⟩, .slice none 0 0] :=
              (hg.block _ (by have := HN.out.2.2.2.lt; first | omega | (simp; omega)) (fun e => by have := HR.out.own _ e.symm; omega)).trans (HN.out.2.2.2.drew.drew.alloc _)
            have hown : ∀ g, v4.ownBlock = some g → w.heap.size + 1 ≤ g := fun g hg2 => by
              rcases hat with e | e
              · exact HR.out.own g (e ▸ hg2)
              · rw [e] at hg2; injection hg2 with hg2; have := HN.out.2.2.2.lt; have h2 : w2.heap.size = w2.drew.drew.heap.size := rfl; omega
            have HR3 := Lib.hid (show TxG w (w4.setCell ⟨r, 1, none⟩ (.int .i64 ((pos : Int) + 1 + 1))) G r bs (.slice (some ⟨g, off, none⟩) bs.length sc) left at_ (pos + 2) (acc ++ [0]) v4 from by
              refine ⟨fun x hx => ?_, by simp; omega, HF.out, ?_, hown, hst, ho4.setCell (.inl (by simp)) _, hB4.far (by simp; omega) _⟩
              · rcases List.mem_append.1 hx with hx | hx
                · exact HR.out.byte x hx
                · simp at hx; omega
              · have h := Sl.only hS ((Only.refl [r] w4).setCell (p := ⟨r, 1, none⟩) (.inl (by simp)) (.int .i64 ((pos : Int) + 1 + 1))) (fun g hg hm => by have := hown g hg; simp at hm; omega)
                simpa using h)
            have HM := Lib.hid (show bs.length - atOf (w4.setCell ⟨r, 1, none⟩ (.int .i64 ((pos : Int) + 1 + 1))) r < bs.length - atOf wr r by rw [HR3.out.ps.at_of, HAT.out]; omega)
            have HP4 := Lib.hid hp4
            clear hS hg hat HN HR x0 x1 x2 x3 f1 f2 hlt hp4 hst ho4 hB4 hown
            obtain ⟨hc, hf, hlt⟩ := HP4.out.blk.facts
            have x0 := hc 0
            have x1 := hc 1
            have x2 := hc 2
            have x3 := hc 3
            have f1 := hf 1
            have f2 := hf 2
            simp at x0 x1 x2 x3
            clear hc hf
            go_wp2
            go_roundw
            case measure => exact HM.out
            case rel => exact ⟨pos + 2, acc ++ [0], HR3⟩
          · have q1 : ((d : Int) == 1) = false := by rw [beq_eq_false_iff_ne]; omega
            have q2 : ((d : Int) == 255) = false := by rw [beq_eq_false_iff_ne]; omega
            have HF := Lib.hid (show ptext (bs.drop at_) at_ [] = .form (pos + 1) by rw [HE.out]; simp only [ptext, if_neg d1, if_neg d2, if_true])
            clear HE
            go_wp2
            refine Lex.wp_region_text (by kernel_rfl) (by kernel_rfl) ?_
            go_wp2
            refine Lex.sq_done (by rfl) ?_
            go_wp2
            refine Lex.wp_region_text (by kernel_rfl) (by kernel_rfl) ?_
            go_wp2
            refine Lex.sq_done (by rfl) ?_
            go_wp2_with fail
            have HOB := Lib.hid (show Only [r] w w2.drew.drew ∧ Blk w2.drew.drew w.heap.size 33 zeroV.toArray from ⟨HN.out.2.2.1.drew.drew, HN.out.2.2.2.drew.drew⟩)
            refine (fail2_ok HN.out.2.1.blk.drew.drew ((pos + 1 : Nat) : Int) 4).mono ?_
            rintro e w8 ⟨rfl, ⟨left8, hb8⟩, ho8⟩
            have hz8 := HOB.out.2.only ho8 (by simp; omega)
            have HB8 := Lib.hid hb8
            have HO8 := Lib.hid (HOB.out.1.trans ho8)
            clear hb8 ho8
            go_wp2_with (refine wpList_store_blk rfl 33 (.tmp 4) (.tmp 67) rfl zeroV rfl rfl hz8 (by kernel_rfl) (by simp) (by simp [Value.oneCell']) ?_)
            intro w9 hB9 hO9
            have HB9 := Lib.hid (show Blk w9 w.heap.size 33 zeroV.toArray from hB9)
            have HO9 := Lib.hid hO9
            clear hB9 hO9 hz8
            go_wp2
            refine bodyPost_ret (results1 rfl (res_blk (cs := zeroV) Try.underlying33 (by kernel_rfl) rfl HB9.out)) rfl ?_
            rw [HF.out]
            exact ⟨rfl, ⟨left8, HB8.out.only HO9.out (by simp; omega)⟩, HO8.out.trans' HO9.out fun i hi => .inr (by simp at hi; omega)⟩
        · have hp2z : ((pos : Int) + 1 == (bs.length : Int)) = true := by rw [beq_iff_eq]; omega
          have HF := Lib.hid (show ptext (bs.drop at_) at_ [] = .short by rw [HE.out, List.drop_eq_nil_of_le (by omega)]; rfl)
          go_wp2
          refine Lex.wp_region_text (by kernel_rfl) (by kernel_rfl) ?_
          go_wp2
          refine Lex.sq_done (by rfl) ?_
          go_wp2_with fail
          have HOB := Lib.hid (show Only [r] w w2.drew ∧ Blk w2.drew w.heap.size 33 zeroV.toArray from ⟨HN.out.2.2.1.drew, HN.out.2.2.2.drew⟩)
          refine (fail2_ok HN.out.2.1.blk.drew (bs.length : Int) 2).mono ?_
          rintro e w8 ⟨rfl, ⟨left8, hb8⟩, ho8⟩
          have hz8 := HOB.out.2.only ho8 (by simp; omega)
          have HB8 := Lib.hid hb8
          have HO8 := Lib.hid (HOB.out.1.trans ho8)
          clear hb8 ho8
          go_wp2_with (refine wpList_store_blk rfl 33 (.tmp 4) (.tmp 120) rfl zeroV rfl rfl hz8 (by kernel_rfl) (by simp) (by simp [Value.oneCell']) ?_)
          intro w9 hB9 hO9
          have HB9 := Lib.hid (show Blk w9 w.heap.size 33 zeroV.toArray from hB9)
          have HO9 := Lib.hid hO9
          clear hB9 hO9 hz8
          go_wp2
          refine bodyPost_ret (results1 rfl (res_blk (cs := zeroV) Try.underlying33 (by kernel_rfl) rfl HB9.out)) rfl ?_
          rw [HF.out]
          exact ⟨rfl, ⟨left8, HB8.out.only HO9.out (by simp; omega)⟩, HO8.out.trans' HO9.out fun i hi => .inr (by simp at hi; omega)⟩
      · have hz1 : ((c : Int) != 0) = true := by rw [bne_iff_ne]; omega
        have HF := Lib.hid (show ptext (bs.drop at_) at_ [] = ptext (bs.drop (pos + 1)) (pos + 1) (acc ++ [c]) by rw [HE.out, ptext_ne hz])
        clear HE hz
        go_wp2_with (at_builtin; refine wpList_append_one (news := [bv c]) rfl (.tmp 37) (.tmp 39) 28 rfl 5 j5 _ 1 1 Try.underlying28 si sz0 sz1 sz2 rfl (by decide) rfl (HN.out.1.alloc _) rfl (Blk.new _ _ _) rfl (by simp [Value.oneCell']) (by unfold maxLen; omega) (by omega) ?_)
        intro v3 w3 hS hg hat
        have HR3 := Lib.hid (show TxG w w3 G r bs (.slice (some ⟨g, off, none⟩) bs.length sc) left at_ (pos + 1) (acc ++ [c]) v3 from by
          refine ⟨fun x hx => ?_, by simp; omega, HF.out, by simpa using hS, fun g hg2 => ?_, (HN.out.2.1.only ((Only.refl _ _).alloc _)).grown hg ?_ ?_, (HN.out.2.2.1.alloc _).grown hg fun g hg2 => ?_, ?_⟩
          · rcases List.mem_append.1 hx with hx | hx
            · exact HR.out.byte x hx
            · simp at hx; omega
          · rcases hat with e | e
            · exact HR.out.own g (e ▸ hg2)
            · rw [e] at hg2; injection hg2 with hg2; have := HN.out.2.2.2.lt; omega
          · intro e; have := HR.out.own r e; omega
          · intro g hgg e; have := HR.out.own g e; have := (HG.out g hgg).2; omega
          · have := HR.out.own g hg2; exact .inr (by omega)
          · exact (hg.block _ (by have := HN.out.2.2.2.lt; first | omega | (simp; omega)) (fun e => by have := HR.out.own _ e.symm; omega)).trans (HN.out.2.2.2.alloc _))
        have HM := Lib.hid (show bs.length - atOf w3 r < bs.length - atOf wr r by rw [HR3.out.ps.at_of, HAT.out]; omega)
        clear hS hg hat HN HR
        go_wp2
        go_roundw
        case measure => exact HM.out
        case rel => exact ⟨pos + 1, acc ++ [c], HR3⟩
    · have hpz : ¬ (pos : Int) < (bs.length : Int) := by omega
      have HF := Lib.hid (show ptext (bs.drop at_) at_ [] = .short by rw [HR.out.eq, List.drop_eq_nil_of_le (by omega)]; rfl)
      go_wp2
      refine Lex.wp_region_text (by kernel_rfl) (by kernel_rfl) ?_
      go_wp2
      refine Lex.sq_done (by rfl) ?_
      go_wp2_with fail
      have HOB := Lib.hid (show Only [r] w wr.drew ∧ Blk wr.drew w.heap.size 33 zeroV.toArray from ⟨HR.out.only.drew, HR.out.blk.drew⟩)
      refine (fail2_ok HR.out.ps.blk.drew (bs.length : Int) 2).mono ?_
      rintro e w8 ⟨rfl, ⟨left8, hb8⟩, ho8⟩
      have hz8 := HOB.out.2.only ho8 (by simp; omega)
      have HB8 := Lib.hid hb8
      have HO8 := Lib.hid (HOB.out.1.trans ho8)
      clear hb8 ho8
      go_wp2_with (refine wpList_store_blk rfl 33 (.tmp 4) (.tmp 120) rfl zeroV rfl rfl hz8 (by kernel_rfl) (by simp) (by simp [Value.oneCell']) ?_)
      intro w9 hB9 hO9
      have HB9 := Lib.hid (show Blk w9 w.heap.size 33 zeroV.toArray from hB9)
      have HO9 := Lib.hid hO9
      clear hB9 hO9 hz8
      go_wp2
      refine bodyPost_ret (results1 rfl (res_blk (cs := zeroV) Try.underlying33 (by kernel_rfl) rfl HB9.out)) rfl ?_
      rw [HF.out]
      exact ⟨rfl, ⟨left8, HB8.out.only HO9.out (by simp; omega)⟩, HO8.out.trans' HO9.out fun i hi => .inr (by simp at hi; omega)⟩
end Go.Proofs.Ytffdfegelgpniaa
