/-
  Reading a list.
-/
import Derived.Test.YtffdfegelgpniaaZVq
set_option linter.unusedSimpArgs false
set_option linter.unusedVariables false
set_option linter.unusedSimpArgs false
set_option linter.unusedVariables false
namespace Go.Proofs.Ytffdfegelgpniaa
open Go.RowKit Go.Fl

theorem info33 : (Try.prog.info? 33).map (fun i => (i.zero, i.size, i.bytes)) = some (some (.agg zeroV.toArray), 5, 64) := by kernel_rfl
/-- A list that is being read: its value's cells and what lies in them; the slice aside. -/
structure LM (w wr : World) (r : Nat) (acc : List V) (css : List (List Value)) (Ss : List (List Nat)) (sv : Value) : Prop where
  blk4 : Blk wr w.heap.size 33 zeroV.toArray
  blk5 : Blk wr (w.heap.size + 1) 33 #[iv 6, iv 0, fv 0, .string ⟨#[]⟩, sv]
  cl : css.length = acc.length
  sl' : Ss.length = acc.length
  els : ∀ j (h : j < acc.length), VO wr acc[j] (css.getD j []) (Ss.getD j [])
  nodup : (sv.ownBlock.toList ++ Ss.flatten).Nodup
  ge : ∀ g ∈ sv.ownBlock.toList ++ Ss.flatten, w.heap.size + 2 ≤ g
  only : Only [r] w wr
theorem LM.keep {w wr w2 : World} {r : Nat} {acc : List V} {css : List (List Value)} {Ss : List (List Nat)} {sv : Value} (h : LM w wr r acc css Ss sv) (h4 : w2.heap[w.heap.size]? = wr.heap[w.heap.size]?) (h5 : w2.heap[w.heap.size + 1]? = wr.heap[w.heap.size + 1]?) (hS : ∀ g ∈ Ss.flatten, w2.heap[g]? = wr.heap[g]?) (ho : Only [r] w w2) : LM w w2 r acc css Ss sv :=
  ⟨h4.trans h.blk4, h5.trans h.blk5, h.cl, h.sl', fun j hj => (h.els j hj).keep fun g hg => hS g (flatten_mem (by rw [h.sl']; exact hj) hg), h.nodup, h.ge, ho⟩
theorem LM.lt {w wr : World} {r : Nat} {acc : List V} {css : List (List Value)} {Ss : List (List Nat)} {sv : Value} (h : LM w wr r acc css Ss sv) : ∀ g ∈ Ss.flatten, g < wr.heap.size := fun g hg => by
  obtain ⟨S, hS, hg⟩ := List.mem_flatten.1 hg
  obtain ⟨j, hj, rfl⟩ := List.getElem_of_mem hS
  have := (h.els j (by rw [← h.sl']; exact hj)).lt g
  rw [List.getD_eq_getElem?_getD, List.getElem?_eq_getElem hj] at this
  exact this hg
theorem LM.onlyR {w wr w2 : World} {r : Nat} {acc : List V} {css : List (List Value)} {Ss : List (List Nat)} {sv : Value} (h : LM w wr r acc css Ss sv) (ho : Only [r] wr w2) (hr : r < w.heap.size) : LM w w2 r acc css Ss sv :=
  h.keep (ho.block _ h.blk4.lt (by simp; omega)) (ho.block _ h.blk5.lt (by simp; omega)) (fun g hg => ho.block g (h.lt g hg) (by have := h.ge g (List.mem_append_right _ hg); simp; omega)) (h.only.trans ho)
structure LR (w wr : World) (G : Nat → Prop) (r : Nat) (bs : List Nat) (s : Value) (nest at0 : Nat) (room0 : Int) (n0 m pos : Nat) (room : Int) (acc : List V) (css : List (List Value)) (Ss : List (List Nat)) (sv : Value) : Prop where
  eq : plist n0 bs nest at0 room0 [] = plist m bs nest pos room acc
  fuel : 2 * (bs.length - pos) + 1 ≤ m
  mle : m ≤ n0
  low : 0 ≤ room
  high : room ≤ 65536
  cnt : acc.length ≤ pos
  ps : PS wr G r bs s pos room
  sl : Sl wr 33 5 sv acc.length css.flatten
  lm : LM w wr r acc css Ss sv
/-- What has been read of one more value. -/
structure XV (w w2 wr : World) (G : Nat → Prop) (r : Nat) (bs : List Nat) (s : Value) (acc : List V) (css : List (List Value)) (Ss : List (List Nat)) (sv : Value) (res : PR) (x : V) (q : Nat) (rm : Int) (cs : List Value) (S : List Nat) : Prop where
  res : res = .ok x q rm
  vo : VO wr x cs S
  nd : S.Nodup
  ge : ∀ g ∈ S, w2.heap.size ≤ g
  ps : PS wr G r bs s q rm
  lm : LM w wr r acc css Ss sv
  size : w2.heap.size ≤ wr.heap.size
section
variable (w w2 : World) (G : Nat → Prop) (r : Nat) (bs : List Nat) (s : Value) (nest c : Nat) (acc : List V) (css : List (List Value)) (Ss : List (List Nat)) (sv : Value) (res : PR)
def RPhi : Nat → Value → World → Prop
  | 0, v, _ => v = .pointer (some ⟨w.heap.size + 1, 4, none⟩)
  | 1, v, _ => v = sv
  | 2, v, _ => v = .pointer (some ⟨r, 0, none⟩)
  | 3, v, _ => v = bv c
  | 4, v, _ => v = iv nest
  | 5, v, w' => ∃ x q rm cs S, v = .agg cs.toArray ∧ XV w w2 w' G r bs s acc css Ss sv res x q rm cs S ∧ Sl w' 33 5 sv acc.length css.flatten
  | 6, v, w' => ∃ x q rm cs S g, v = .slice (some ⟨g, 0, none⟩) 1 1 ∧ Blk w' g 33 cs.toArray ∧ XV w w2 w' G r bs s acc css Ss sv res x q rm cs S ∧ Sl w' 33 5 sv acc.length css.flatten ∧ w2.heap.size ≤ g ∧ g ∉ S
  | 7, v, w' => ∃ x q rm cs S, Sl w' 33 5 v (acc.length + 1) (css.flatten ++ cs) ∧ (∀ g, v.ownBlock = some g → sv.ownBlock = some g ∨ (w2.heap.size ≤ g ∧ g ∉ S)) ∧ XV w w2 w' G r bs s acc css Ss sv res x q rm cs S
  | 8, v, _ => v = .pointer (some ⟨w.heap.size + 1, 4, none⟩)
  | 9, _, w' => ∃ x q rm cs S sv', res = .ok x q rm ∧ Sl w' 33 5 sv' (acc ++ [x]).length (css ++ [cs]).flatten ∧ LM w w' r (acc ++ [x]) (css ++ [cs]) (Ss ++ [S]) sv' ∧ PS w' G r bs s q rm
  | _, _, _ => True
def RInv : Nat → World → Prop
  | 1, w' => Blk w' (w.heap.size + 1) 33 #[iv 6, iv 0, fv 0, .string ⟨#[]⟩, sv]
  | 5, w' => w' = w2.drew
  | _, _ => True
def RRel : Nat → World → World → Prop
  | 5, a, b => Only [r] a b
  | 6, a, b => Only [] a b
  | 7, a, b => Only sv.ownBlock.toList a b
  | 9, a, b => Only [w.heap.size + 1] a b
  | _, a, b => a = b
def RPan (ch : List PanicEntry) (w' : World) : Prop := ∃ p e, res = .bad p e ∧ ch = [{ v := wrongV p e, recovered := false }] ∧ Only [r] w2 w'
end
abbrev RD : List (List Nat) := [[], [0], [], [], [], [2, 3, 4], [5], [1, 6], [], [8, 7]]
abbrev RA : List (List Nat) := [[], [0], [], [], [], [2, 3, 4], [5, 2, 3, 4], [1, 6, 0, 5, 2, 3, 4], [], [8, 7, 1, 6, 0, 5, 2, 3, 4]]
theorem XV.only0 {w w2 wr w4 : World} {G : Nat → Prop} {r : Nat} {bs : List Nat} {s : Value} {acc : List V} {css : List (List Value)} {Ss : List (List Nat)} {sv : Value} {res : PR} {x : V} {q : Nat} {rm : Int} {cs : List Value} {S : List Nat} (h : XV w w2 wr G r bs s acc css Ss sv res x q rm cs S) (ho : Only [] wr w4) (hr : r < w.heap.size) : XV w w2 w4 G r bs s acc css Ss sv res x q rm cs S :=
  ⟨h.res, h.vo.only ho fun _ _ => by simp, h.nd, h.ge, h.ps.only ho, h.lm.onlyR (ho.mono (by simp)) hr, Nat.le_trans h.size ho.size⟩
theorem VO.form {w : World} {v : V} {cs : List Value} {S : List Nat} (h : VO w v cs S) : ∃ (k i : Int) (r : Nat) (t : ByteArray) (a : Option Addr) (n cap : Nat), cs = [iv k, iv i, fv r, .string t, .slice a n cap] := h.vis.five
theorem sl_form {w : World} {e size n : Nat} {v : Value} {xs : List Value} (h : Sl w e size v n xs) : ∃ a cap, v = .slice a n cap := by
  obtain ⟨a, c, e, _⟩ := h.shape
  exact ⟨a, c, e⟩
theorem R_st {w w2 : World} {G : Nat → Prop} {r : Nat} {bs : List Nat} {s : Value} {nest c : Nat} {acc : List V} {css : List (List Value)} {Ss : List (List Nat)} {sv : Value} {res : PR} (i p : Nat) (v : Value) (a b : World) (hB : Lex.needB 10 RA RD [9] i p = true)
    (h : RPhi w w2 G r bs s nest c acc css Ss sv res p v a) (hR : RRel w r sv i a b) : RPhi w w2 G r bs s nest c acc css Ss sv res p v b := by
  have hi : i < 10 := by
    unfold Lex.needB at hB
    simp only [Bool.and_eq_true, decide_eq_true_eq] at hB
    exact hB.1.1.1.1
  have hp : p < 10 := by
    unfold Lex.needB at hB
    simp only [Bool.and_eq_true, decide_eq_true_eq] at hB
    exact hB.1.1.1.2
  by_cases hpp : p = 5 ∨ p = 6 ∨ p = 7 ∨ p = 9
  · by_cases hii : i = 5 ∨ i = 6 ∨ i = 7 ∨ i = 9
    · exfalso
      rcases hpp with rfl | rfl | rfl | rfl <;> rcases hii with rfl | rfl | rfl | rfl <;> revert hB <;> decide
    · have e : a = b := by
        match i, hR, hii with
        | 0, h, _ => exact h
        | 1, h, _ => exact h
        | 2, h, _ => exact h
        | 3, h, _ => exact h
        | 4, h, _ => exact h
        | 8, h, _ => exact h
        | 5, _, h => simp at h
        | 6, _, h => simp at h
        | 7, _, h => simp at h
        | 9, _, h => simp at h
        | n + 10, _, _ => omega
      exact e ▸ h
  · match p, h, hpp with
    | 0, h, _ => exact h
    | 1, h, _ => exact h
    | 2, h, _ => exact h
    | 3, h, _ => exact h
    | 4, h, _ => exact h
    | 8, h, _ => exact h
    | 5, _, h => simp at h
    | 6, _, h => simp at h
    | 7, _, h => simp at h
    | 9, _, h => simp at h
    | n + 10, _, _ => omega
theorem RI_st {w w2 : World} {r : Nat} {sv : Value} (hr : r < w.heap.size) (i q : Nat) (a b : World) (hB : Lex.keepB 10 RA i q = true) (h : RInv w w2 sv q a) (hR : RRel w r sv i a b) : RInv w w2 sv q b := by
  have hi : i < 10 := by
    unfold Lex.keepB at hB
    simp only [Bool.and_eq_true, decide_eq_true_eq] at hB
    exact hB.1.1.1
  by_cases hq1 : q = 1
  · subst hq1
    by_cases hii : i = 7 ∨ i = 9
    · exfalso
      rcases hii with rfl | rfl <;> revert hB <;> decide
    · match i, hR, hii with
      | 0, e, _ => exact (show a = b from e) ▸ h
      | 1, e, _ => exact (show a = b from e) ▸ h
      | 2, e, _ => exact (show a = b from e) ▸ h
      | 3, e, _ => exact (show a = b from e) ▸ h
      | 4, e, _ => exact (show a = b from e) ▸ h
      | 8, e, _ => exact (show a = b from e) ▸ h
      | 5, e, _ => exact Blk.only (S := [r]) h e (by simp; omega)
      | 6, e, _ => exact Blk.only (S := []) h e (by simp)
      | 7, _, h => simp at h
      | 9, _, h => simp at h
      | n + 10, _, _ => omega
  · by_cases hq5 : q = 5
    · subst hq5
      by_cases hii : i = 6 ∨ i = 7 ∨ i = 9 ∨ i = 5
      · exfalso
        rcases hii with rfl | rfl | rfl | rfl <;> revert hB <;> decide
      · match i, hR, hii with
        | 0, e, _ => exact (show a = b from e) ▸ h
        | 1, e, _ => exact (show a = b from e) ▸ h
        | 2, e, _ => exact (show a = b from e) ▸ h
        | 3, e, _ => exact (show a = b from e) ▸ h
        | 4, e, _ => exact (show a = b from e) ▸ h
        | 8, e, _ => exact (show a = b from e) ▸ h
        | 5, _, h => simp at h
        | 6, _, h => simp at h
        | 7, _, h => simp at h
        | 9, _, h => simp at h
        | n + 10, _, _ => omega
    · unfold RInv
      split
      · exact absurd rfl hq1
      · exact absurd rfl hq5
      · trivial
set_option maxRecDepth 100000 in
set_option maxHeartbeats 3200000 in
theorem list_step (n : Nat) (HV : ∀ m, m < n → ValOk m) : LstOk n := by
  intro w F r bs s nest at_ room h h0 h1 hbl hn hfu
  obtain ⟨j33, si, sz0, sz1, sz2⟩ := info_parts info33
  have hFr := h.out
  have hst := h.strict
  have HBB := Lib.hid (show ∀ c ∈ bs, c < 256 by obtain ⟨_, _, _, _, _, hb, _⟩ := h.bytes; exact hb)
  have hrl := h.blk.lt
  have hle := h.le
  clear h
  obtain ⟨G, hG⟩ : ∃ G : Nat → Prop, G = fun g => F g ∧ g < w.heap.size := ⟨_, rfl⟩
  rw [← hG] at hst
  have HG := Lib.hid (show ∀ g, G g → F g ∧ g < w.heap.size by rw [hG]; exact fun _ h => h)
  have HGF := Lib.hid (show ∀ (w' : World) (q : Nat) (rm : Int), PS w' G r bs s q rm → PS w' F r bs s q rm from fun _ _ _ h => h.mono (fun g hg => (HG.out g hg).1) hFr)
  have H := Lib.hid hst
  clear hst hG
  go_enter Try.func53, Try.ntmps53
  go_wp2_with (refine wpList_store_blk rfl 33 (.tmp 5) (.tmp 7) rfl [iv 6, iv 0, fv 0, .string ⟨#[]⟩, .slice none 0 0] rfl rfl (by have := Blk.new (w.alloc (.cells zeroV.toArray 33)) 33 zeroV.toArray; rw [show (w.alloc (.cells zeroV.toArray 33)).heap.size = w.heap.size + 1 by simp] at this; exact this) (by kernel_rfl) (by simp) (by simp [Value.oneCell']) ?_)
  intro w1 hB1 hO1
  have HO1 := Lib.hid (show Only [] w w1 from (((Only.refl [] w).alloc _).alloc _).trans' hO1 (fun i hi => .inr (by simp at hi; omega)))
  have HR0 := Lib.hid (show LR w w1 G r bs s nest at_ room n n at_ room [] [] [] (.slice none 0 0) from
    ⟨rfl, hfu, Nat.le_refl _, h0, h1, Nat.zero_le _, H.out.only HO1.out, Sl.nil _ _ _,
      ⟨(hO1.block _ (by simp; omega) (by simp)).trans ((Blk.new w 33 zeroV.toArray).alloc _), hB1, rfl, rfl, fun j h => absurd h (Nat.not_lt_zero _), List.nodup_nil, (fun g hg => by cases hg), HO1.out.mono (by simp)⟩⟩)
  clear hB1 hO1
  go_wp2
  go_loopw [] (fun wr => ∃ (m pos : Nat) (rm : Int) (acc : List V) (css : List (List Value)) (Ss : List (List Nat)) (sv : Value), Hid (LR w wr G r bs s nest at_ room n m pos rm acc css Ss sv)) (fun wr => bs.length - atOf wr r)
  case atStart => exact ⟨n, at_, room, [], [], [], _, HR0⟩
  case round =>
    obtain ⟨m, pos, rm, acc, css, Ss, sv, HR⟩ := hrel
    have HAT := Lib.hid HR.out.ps.at_of
    have hfuel := HR.out.fuel
    have hmle := HR.out.mle
    have hcnt := HR.out.cnt
    have hple := HR.out.ps.le
    obtain ⟨m, rfl⟩ : ∃ k, m = k + 1 := ⟨m - 1, by omega⟩
    have HN := Lib.hid (next_ok HR.out.ps)
    go_wp2_with fail
    refine HN.out.mono ?_
    clear HN
    intro e w2 hnx
    unfold NextPost at hnx
    by_cases hp : pos < bs.length
    case neg =>
      rw [List.getElem?_eq_none (by omega)] at hnx
      obtain ⟨rfl, ho⟩ := hnx
      have HO := Lib.hid (HR.out.lm.only.trans ho)
      have HF := Lib.hid (show plist n bs nest at_ room [] = .bad bs.length 2 by rw [HR.out.eq]; unfold plist; rw [List.getElem?_eq_none (by omega)])
      clear ho HR
      go_wp2
      refine ⟨rfl, ?_⟩
      rw [HF.out]
      exact ⟨rfl, HO.out⟩
    rw [List.getElem?_eq_getElem hp] at hnx
    obtain ⟨rfl, hps, ho⟩ := hnx
    have HP := Lib.hid hps
    have HS := Lib.hid (HR.out.sl.only ho (fun g hg hm => by have := HR.out.lm.ge g (List.mem_append_left _ (by simp [hg])); simp at hm; omega))
    have HM := Lib.hid (HR.out.lm.onlyR ho hrl)
    have hlow := HR.out.low
    have hhigh := HR.out.high
    have HE := Lib.hid (show plist n bs nest at_ room [] = (if bs[pos] = 0 then .ok (.mk 6 0 0 ⟨#[]⟩ acc) (pos + 1) rm else match pval m bs bs[pos] nest (pos + 1) rm with | .bad p e => .bad p e | .ok v q rm => plist m bs nest q rm (acc ++ [v])) by
      rw [HR.out.eq]
      conv => lhs; unfold plist
      rw [List.getElem?_eq_getElem hp]
      rfl)
    have hcb := HBB.out _ (List.getElem_mem hp)
    clear hps ho HR
    generalize bs[pos] = c at *
    by_cases hz : c = 0
    · subst hz
      have HF := Lib.hid (HE.out.trans (if_pos rfl))
      obtain ⟨a, cap, rfl, hcap, hmax⟩ : ∃ a cap, sv = .slice a acc.length cap ∧ acc.length ≤ cap ∧ cap ≤ maxLen := by
        rcases HS.out.2 with ⟨e, e2⟩ | ⟨g, off, cap', cur, e, hh, h1, h2, _, _⟩
        · exact ⟨_, _, e.trans (by rw [e2]), by omega, by decide⟩
        · exact ⟨_, _, e, h1, h2⟩
      have hb5 := HM.out.blk5
      have y0 := hb5.cell 0
      have y1 := hb5.cell 1
      have y2 := hb5.cell 2
      have y3 := hb5.cell 3
      have y4 := hb5.cell 4
      simp at y0 y1 y2 y3 y4
      have hb4 := HM.out.blk4
      clear HE hb5
      go_wp2_with (refine wpList_store_blk rfl 33 (.tmp 4) (.tmp 12) rfl [iv 6, iv 0, fv 0, .string ⟨#[]⟩, .slice a acc.length cap] rfl rfl hb4 (by kernel_rfl) (by simp) (by simp [Value.oneCell']) ?_)
      intro w3 hB3 hO3
      have HB3 := Lib.hid hB3
      have HO3 := Lib.hid hO3
      clear hB3 hO3 hb4 y0 y1 y2 y3 y4
      go_wp2
      refine bodyPost_ret (results1 rfl (res_blk (cs := [iv 6, iv 0, fv 0, .string ⟨#[]⟩, .slice a acc.length cap]) Try.underlying33 (by kernel_rfl) rfl HB3.out)) rfl ?_
      rw [HF.out]
      have hfar : ∀ g ∈ (Value.slice a acc.length cap).ownBlock.toList ++ Ss.flatten, g ∉ [w.heap.size] := fun g hg hm => by
        have := HM.out.ge g hg
        simp at hm
        omega
      refine ⟨[iv 6, iv 0, fv 0, .string ⟨#[]⟩, .slice a acc.length cap], _, rfl, .mk css Ss (by decide) (by decide) (by omega) (Nat.zero_le _) HM.out.cl HM.out.sl' (HS.out.only HO3.out fun g hg => hfar g (List.mem_append_left _ (by simp [hg]))) (fun j hj => (HM.out.els j hj).only HO3.out fun g hg => hfar g (List.mem_append_right _ (flatten_mem (by rw [HM.out.sl']; exact hj) hg))), HM.out.nodup, (fun g hg => by have := HM.out.ge g hg; omega), HGF.out _ _ _ (HP.out.far HO3.out (by omega) (fun g hg => by have := (HG.out g hg).2; omega)), HM.out.only.trans' HO3.out (fun i hi => .inr (by simp at hi; omega))⟩
    · have hz1 : ((c : Int) == 0) = false := by rw [beq_eq_false_iff_ne]; omega
      have HF0 := Lib.hid (HE.out.trans (if_neg hz))
      have HP3 := Lib.hid (show PS w2.drew G r bs s (pos + 1) rm from HP.out.only (Only.refl _ _).drew)
      have HS3 := Lib.hid (show Sl w2.drew 33 5 sv acc.length css.flatten from HS.out.drew)
      have HM3 := Lib.hid (show LM w w2.drew r acc css Ss sv from HM.out.keep rfl rfl (fun _ _ => rfl) HM.out.only.drew)
      have HC := Lib.hid (HV m (by omega) w2.drew G r bs s c nest (pos + 1) rm HP3.out hlow hhigh hbl hn hcb (by omega))
      have HRS := Lib.hid (fun (x : V) (q : Nat) (rm' : Int) (h : pval m bs c nest (pos + 1) rm = .ok x q rm') => pval_ok m bs c nest (pos + 1) rm x q rm' hlow h)
      clear HE
      generalize hres : pval m bs c nest (pos + 1) rm = res at *
      clear hres
      go_wp2
      refine Lex.wp_region_eachA (by kernel_rfl) RD (by kernel_rfl) (by rfl) RA (by kernel_rfl) [9] (RInv w w2 sv) ?_ (RRel w r sv) (RPhi w w2 G r bs s nest c acc css Ss sv res) (RPan w2 r res) (fun i p v a b h k => R_st i p v a b h k) (fun i q a b h k => RI_st hrl i q a b h k) ?_ ?_ ?_
      · intro i hi
        unfold RInv
        split
        · exact HM3.out.blk5
        · rfl
        · trivial
      · intro i o ho w3 hI
        rcases i with _ | _ | _ | _ | _ | _ | _ | _ | _ | _ | i
        · injection ho with ho
          subst ho
          show wpList _ _ _ _ _ _
          go_wp2
          exact ⟨rfl, rfl, rfl⟩
        · injection ho with ho
          subst ho
          have x4 := (show Blk w3 (w.heap.size + 1) 33 #[iv 6, iv 0, fv 0, .string ⟨#[]⟩, sv] from hI).cell 4
          simp at x4
          intro v hv
          obtain rfl : v = .pointer (some ⟨w.heap.size + 1, 4, none⟩) := hv
          simp only [Lex.dstOf, List.getElem?_cons_zero, List.getElem?_cons_succ, Option.bind_some]
          clear hI
          show wpList _ _ _ _ _ _
          go_wp2
          exact ⟨rfl, rfl, rfl⟩
        · injection ho with ho
          subst ho
          show wpList _ _ _ _ _ _
          go_wp2
          exact ⟨rfl, rfl, rfl⟩
        · injection ho with ho
          subst ho
          show wpList _ _ _ _ _ _
          go_wp2
          exact ⟨rfl, rfl, rfl⟩
        · injection ho with ho
          subst ho
          show wpList _ _ _ _ _ _
          go_wp2
          exact ⟨rfl, rfl, rfl⟩
        · injection ho with ho
          subst ho
          obtain rfl : w3 = w2.drew := hI
          intro v2 h2 v3 h3 v4 h4
          obtain rfl : v2 = .pointer (some ⟨r, 0, none⟩) := h2
          obtain rfl : v3 = bv c := h3
          obtain rfl : v4 = iv nest := h4
          simp only [Lex.dstOf, List.getElem?_cons_zero, List.getElem?_cons_succ, Option.bind_some]
          show wpList _ _ _ _ _ _
          go_wp2_with fail
          refine HC.out.mono ?_
          intro e w4 hc
          unfold ValPost at hc
          cases res with
          | bad p0 e0 =>
            obtain ⟨rfl, ho⟩ := hc
            have HO4 := Lib.hid (show Only [r] w2 w4 from (Only.refl [r] w2).drew.trans ho)
            clear ho
            go_wp2
            exact ⟨p0, e0, rfl, rfl, HO4.out⟩
          | ok x q rm' =>
            obtain ⟨cs, S, rfl, hvo, hnd, hge, hps, ho⟩ := hc
            have HX := Lib.hid (show XV w w2 w4 G r bs s acc css Ss sv (.ok x q rm') x q rm' cs S from ⟨rfl, hvo, hnd, hge, hps, HM3.out.onlyR ho hrl, ho.size⟩)
            have HS4 := Lib.hid (HS3.out.only ho (fun g hg hm => by have := HM3.out.ge g (List.mem_append_left _ (by simp [hg])); simp at hm; omega))
            have HO4 := Lib.hid ho
            clear hvo hnd hge hps ho
            go_wp2
            exact ⟨⟨x, q, rm', cs, S, rfl, HX.out, HS4.out⟩, HO4.out, rfl⟩
        · injection ho with ho
          subst ho
          intro v hv
          obtain ⟨x, q, rm', cs, S, rfl, hx, hs⟩ := hv
          obtain ⟨k0, i0, r0, t0, sa0, sn0, sc0, hcs⟩ := hx.vo.form
          have HX := Lib.hid hx
          have HSS := Lib.hid hs
          have hwl := hx.lm.blk4.lt
          clear hx hs hI
          subst hcs
          simp only [Lex.dstOf, List.getElem?_cons_zero, List.getElem?_cons_succ, Option.bind_some]
          show wpList _ _ _ _ _ _
          go_wp2
          exact ⟨⟨x, q, rm', _, S, w3.heap.size, rfl, Blk.new _ _ _, HX.out.only0 ((Only.refl _ _).alloc _) hrl, HSS.out.alloc _, HX.out.size, fun hm => by have := HX.out.vo.lt _ hm; omega⟩, (Only.refl _ _).alloc _, rfl⟩
        · injection ho with ho
          subst ho
          intro v1 hv1 v6 hv6
          obtain rfl : v1 = sv := hv1
          obtain ⟨x, q, rm', cs, S, g, rfl, hb, hx, hs, hg, hgS⟩ := hv6
          have hlen := hx.vo.len
          obtain ⟨k0, i0, r0, t0, sa0, sn0, sc0, hcs⟩ := hx.vo.form
          have hone : ∀ u ∈ cs, u.oneCell' = true := by rw [hcs]; simp [Value.oneCell']
          have HX := Lib.hid hx
          clear hx hcs hI
          simp only [Lex.dstOf, List.getElem?_cons_zero, List.getElem?_cons_succ, Option.bind_some]
          show wpList _ _ _ _ _ _
          go_wp2_with (at_builtin; refine wpList_append_one (news := cs) rfl (.tmp 14) (.tmp 19) 31 rfl 33 j33 _ 5 64 Try.underlying31 si sz0 sz1 sz2 rfl (by decide) rfl hs rfl hb hlen hone (by unfold maxLen; omega) (by omega) ?_)
          intro v7 w4 hS4 hg4 hat4
          have hol : ∀ g, v1.ownBlock = some g → g < w2.heap.size := fun g hg => HS.out.lt g hg
          have hX4 : XV w w2 w4 G r bs s acc css Ss v1 res x q rm' cs S := by
            have hd := HX.out.lm.nodup
            refine ⟨HX.out.res, HX.out.vo.grown hg4 fun g hg e => ?_, HX.out.nd, HX.out.ge, HX.out.ps.grown hg4 ?_ ?_, HX.out.lm.keep (hg4.block _ HX.out.lm.blk4.lt ?_) (hg4.block _ HX.out.lm.blk5.lt ?_) (fun g hg => hg4.block g (HX.out.lm.lt g hg) fun e => ?_) (HX.out.lm.only.grown hg4 fun g hg => .inr ?_), Nat.le_trans HX.out.size hg4.size⟩
            · have := hol g e; have := HX.out.ge g hg; omega
            · intro e; have := HX.out.lm.ge r (List.mem_append_left _ (by simp [e])); omega
            · intro g hgg e; have := HX.out.lm.ge g (List.mem_append_left _ (by simp [e])); have := (HG.out g hgg).2; omega
            · intro e; have := HX.out.lm.ge w.heap.size (List.mem_append_left _ (by simp [← e])); omega
            · intro e; have := HX.out.lm.ge (w.heap.size + 1) (List.mem_append_left _ (by simp [← e])); omega
            · exact (List.nodup_append.1 hd).2.2 g (by simp [← e]) g hg rfl
            · have := HX.out.lm.ge g (List.mem_append_left _ (by simp [hg])); omega
          have HX4 := Lib.hid hX4
          have HS4 := Lib.hid hS4
          have HOW := Lib.hid (show ∀ g, v7.ownBlock = some g → v1.ownBlock = some g ∨ (w2.heap.size ≤ g ∧ g ∉ S) from fun g hg => by
            rcases hat4 with e | e
            · exact .inl (e ▸ hg)
            · rw [e] at hg
              injection hg with hg
              subst hg
              exact .inr ⟨HX.out.size, fun hm => by have := HX.out.vo.lt _ hm; omega⟩)
          have HRL := Lib.hid (show Only v1.ownBlock.toList w3 w4 from (Only.refl _ _).grown hg4 fun k hk => .inl (by simp [hk]))
          clear hX4 hS4 hg4 hat4 hs hb hone
          go_wp2
          exact ⟨⟨x, q, rm', cs, S, HS4.out, HOW.out, HX4.out⟩, HRL.out, rfl⟩
        · injection ho with ho
          subst ho
          show wpList _ _ _ _ _ _
          go_wp2
          exact ⟨rfl, rfl, rfl⟩
        · injection ho with ho
          subst ho
          intro v8 hv8 v7 hv7
          obtain rfl : v8 = .pointer (some ⟨w.heap.size + 1, 4, none⟩) := hv8
          obtain ⟨x, q, rm', cs, S, hS7, hown, hx⟩ := hv7
          obtain ⟨a7, c7, rfl⟩ := sl_form hS7
          have x4 := hx.lm.blk5.cell 4
          have f4 := hx.lm.blk5.frozen 4
          have l5 := hx.lm.blk5.lt
          simp at x4
          have HX := Lib.hid hx
          have HS7 := Lib.hid hS7
          have HOW := Lib.hid hown
          clear hx hS7 hown hI
          simp only [Lex.dstOf, List.getElem?_cons_zero, List.getElem?_cons_succ, Option.bind_some]
          show wpList _ _ _ _ _ _
          have hb5' := HX.out.lm.blk5.set_ 4 (.slice a7 (acc.length + 1) c7)
          have HB5 := Lib.hid (show Blk (w3.setCell ⟨w.heap.size + 1, 4, none⟩ (.slice a7 (acc.length + 1) c7)) (w.heap.size + 1) 33 #[iv 6, iv 0, fv 0, .string ⟨#[]⟩, .slice a7 (acc.length + 1) c7] from hb5')
          have HO5 := Lib.hid (show Only [w.heap.size + 1] w3 (w3.setCell ⟨w.heap.size + 1, 4, none⟩ (.slice a7 (acc.length + 1) c7)) from (Only.refl _ _).setCell (.inl (by simp)) _)
          clear hb5'
          go_wp2
          have hol : ∀ g, sv.ownBlock = some g → g < w2.heap.size := fun g hg => HS.out.lt g hg
          have hsl : ∀ g ∈ Ss.flatten, g < w2.heap.size := HM.out.lt
          have hd := HX.out.lm.nodup
          have hge7 : ∀ g, (Value.slice a7 (acc.length + 1) c7).ownBlock = some g → w.heap.size + 2 ≤ g := fun g hg => by
            rcases HOW.out g hg with e | ⟨e, _⟩
            · exact HX.out.lm.ge g (List.mem_append_left _ (by simp [e]))
            · have := HM.out.blk5.lt; have := HM.out.ge; have h6 : w.heap.size + 2 ≤ w2.heap.size := by have := HM.out.blk5.lt; omega
              omega
          refine ⟨⟨x, q, rm', cs, S, .slice a7 (acc.length + 1) c7, HX.out.res, ?_, ⟨(HO5.out.block _ HX.out.lm.blk4.lt (by simp)).trans HX.out.lm.blk4, HB5.out, by simp [HX.out.lm.cl], by simp [HX.out.lm.sl'], fun j hj => ?_, ?_, fun g hg => ?_, HX.out.lm.only.trans' HO5.out fun i hi => .inr (by simp at hi; omega)⟩, HX.out.ps.far HO5.out (by omega) fun g hg => by have := (HG.out g hg).2; omega⟩, HO5.out, rfl⟩
          · have := HS7.out.only HO5.out fun g hg hm => by have := hge7 g hg; simp at hm; omega
            simpa using this
          · have hcl := HX.out.lm.cl
            have hsl2 := HX.out.lm.sl'
            by_cases hja : j < acc.length
            · rw [List.getElem_append_left hja, List.getD_eq_getElem?_getD, List.getD_eq_getElem?_getD, List.getElem?_append_left (by omega), List.getElem?_append_left (by omega), ← List.getD_eq_getElem?_getD, ← List.getD_eq_getElem?_getD]
              exact (HX.out.lm.els j hja).only HO5.out fun g hg hm => by
                have := HX.out.lm.ge g (List.mem_append_right _ (flatten_mem (by omega) hg)); simp at hm; omega
            · have hje : j = acc.length := by simp at hj; omega
              subst hje
              rw [List.getElem_append_right (by omega), List.getD_eq_getElem?_getD, List.getD_eq_getElem?_getD, List.getElem?_append_right (by omega), List.getElem?_append_right (by omega)]
              simp only [hcl, hsl2, Nat.sub_self, List.getElem?_cons_zero, Option.getD_some, List.getElem_cons_zero]
              exact HX.out.vo.only HO5.out fun g hg hm => by
                have := HX.out.ge g hg; have := HM.out.blk5.lt; simp at hm; omega
          · rw [List.flatten_append, List.flatten_cons, List.flatten_nil, List.append_nil]
            obtain ⟨d1, d2, d3⟩ := List.nodup_append.1 hd
            refine List.nodup_append.2 ⟨?_, List.nodup_append.2 ⟨d2, HX.out.nd, fun a ha b hb e => ?_⟩, fun a ha b hb e => ?_⟩
            · cases (Value.slice a7 (acc.length + 1) c7).ownBlock with
              | none => exact List.nodup_nil
              | some g => simp
            · have := hsl a ha; have := HX.out.ge b hb; omega
            · subst e
              have ha' : (Value.slice a7 (acc.length + 1) c7).ownBlock = some a := by simpa using ha
              rcases HOW.out a ha' with e | ⟨e, e2⟩
              · rcases List.mem_append.1 hb with hb | hb
                · exact d3 a (by simp [e]) a hb rfl
                · have := hol a e; have := HX.out.ge a hb; omega
              · rcases List.mem_append.1 hb with hb | hb
                · have := hsl a hb; omega
                · exact e2 hb
          · rcases List.mem_append.1 hg with hg | hg
            · exact hge7 g (by simpa using hg)
            · rw [List.flatten_append, List.flatten_cons, List.flatten_nil, List.append_nil] at hg
              rcases List.mem_append.1 hg with hg | hg
              · exact HX.out.lm.ge g (List.mem_append_right _ hg)
              · have := HX.out.ge g hg; have := HM.out.blk5.lt; omega
        · cases ho
      · intro ch a' w4 hd hpa
        obtain ⟨p0, e0, rfl, rfl, ho⟩ := hpa
        refine ⟨hd, ?_⟩
        rw [HF0.out]
        exact ⟨rfl, HM.out.only.trans ho⟩
      · intro w4
        show ∀ v0, _ → ∀ v1, _ → ∀ v2, _ → ∀ v3, _ → ∀ v4, _ → ∀ v5, _ → ∀ v6, _ → ∀ v7, _ → ∀ v8, _ → ∀ v9, _ → Exit.inBlock _ _ _ _ _
        intro v0 _ v1 _ v2 _ v3 _ v4 _ v5 _ v6 _ v7 _ v8 _ v9 h9
        obtain ⟨x, q, rm', cs, S, sv', hres, hS9, hM9, hP9⟩ := h9 (by rfl)
        subst hres
        obtain ⟨hq1, hq2, hq3⟩ := HRS.out x q rm' rfl
        have HR4 := Lib.hid (show LR w w4 G r bs s nest at_ room n m q rm' (acc ++ [x]) (css ++ [cs]) (Ss ++ [S]) sv' from
          ⟨HF0.out, by omega, by omega, hq2, by omega, by simp; omega, hP9, hS9, hM9⟩)
        have HME := Lib.hid (show bs.length - atOf w4 r < bs.length - atOf wr r by rw [hP9.at_of, HAT.out]; have := hP9.le; omega)
        clear hS9 hM9 hP9
        simp only [Lex.dstOf, List.getElem?_cons_zero, List.getElem?_cons_succ, Option.bind_some]
        go_wp2
        go_roundw
        case measure => exact HME.out
        case rel => exact ⟨m, q, rm', _, _, _, _, HR4⟩
end Go.Proofs.Ytffdfegelgpniaa
