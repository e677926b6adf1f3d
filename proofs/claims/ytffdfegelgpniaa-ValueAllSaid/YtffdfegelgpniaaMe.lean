/-
  Values that own their lists; how bytes are read as a value, in plain words.
-/
import Derived.Test.YtffdfegelgpniaaMd
import Derived.Test.YtffdfegelgpniaaZEach
set_option linter.unusedSimpArgs false
set_option linter.unusedVariables false
set_option linter.unusedSimpArgs false
set_option linter.unusedVariables false
namespace Go.Proofs.Ytffdfegelgpniaa
open Go.RowKit Go.Fl

/-- A value in memory, each of whose lists lies in a block of its own: those of S. -/
inductive VO (w : World) : V → List Value → List Nat → Prop
  | mk {k i : Int} {r : Nat} {t : ByteArray} {l : List V} {s : Value} (css : List (List Value)) (Ss : List (List Nat)) : (Lit.int .i64 k).wf = true → (Lit.int .i64 i).wf = true → r < 18446744073709551616 → t.size ≤ maxLen →
      css.length = l.length → Ss.length = l.length → Sl w 33 5 s l.length css.flatten → (∀ j (h : j < l.length), VO w l[j] (css.getD j []) (Ss.getD j [])) → VO w (.mk k i r t l) [iv k, iv i, fv r, .string t, s] (s.ownBlock.toList ++ Ss.flatten)
section
variable {w w' : World}
theorem VO.five {v : V} {cs : List Value} {S : List Nat} (h : VO w v cs S) : ∃ (k i : Int) (r : Nat) (t : ByteArray) (s : Value), cs = [iv k, iv i, fv r, .string t, s] := by
  cases h with
  | mk => exact ⟨_, _, _, _, _, rfl⟩
theorem VO.len {v : V} {cs : List Value} {S : List Nat} (h : VO w v cs S) : cs.length = 5 := by
  obtain ⟨_, _, _, _, _, rfl⟩ := h.five
  rfl
theorem flatten_mem {Ss : List (List Nat)} {j g : Nat} (hj : j < Ss.length) (h : g ∈ Ss.getD j []) : g ∈ Ss.flatten := by
  rw [List.getD_eq_getElem?_getD, List.getElem?_eq_getElem hj] at h
  exact List.mem_flatten.2 ⟨_, List.getElem_mem hj, h⟩
theorem VO.lt {v : V} {cs : List Value} {S : List Nat} (h : VO w v cs S) : ∀ g ∈ S, g < w.heap.size := by
  induction h with
  | @mk k i r t l s css Ss h1 h2 h3 h4 h5 h6 h7 h8 ih =>
    intro g hg
    rcases List.mem_append.1 hg with hg | hg
    · exact h7.lt g (by simpa using hg)
    · obtain ⟨S, hS, hg⟩ := List.mem_flatten.1 hg
      obtain ⟨j, hj, rfl⟩ := List.getElem_of_mem hS
      have := ih j (by omega) g
      rw [List.getD_eq_getElem?_getD, List.getElem?_eq_getElem hj] at this
      exact this hg
theorem VO.keep {v : V} {cs : List Value} {S : List Nat} (h : VO w v cs S) (hk : ∀ g ∈ S, w'.heap[g]? = w.heap[g]?) : VO w' v cs S := by
  induction h with
  | @mk k i r t l s css Ss h1 h2 h3 h4 h5 h6 h7 h8 ih =>
    refine .mk css Ss h1 h2 h3 h4 h5 h6 (h7.keep fun g hg => hk g (List.mem_append_left _ (by simp [hg]))) fun j hj => ih j hj fun g hg => hk g (List.mem_append_right _ (flatten_mem (by omega) hg))
theorem VO.only {v : V} {cs : List Value} {S T : List Nat} (h : VO w v cs S) (ho : Only T w w') (hT : ∀ g ∈ S, g ∉ T) : VO w' v cs S := h.keep fun g hg => ho.block g (h.lt g hg) (hT g hg)
theorem VO.grown {v : V} {cs : List Value} {S : List Nat} {row : Option Nat} (h : VO w v cs S) (hg : w.grownBy w' row) (hT : ∀ g ∈ S, row ≠ some g) : VO w' v cs S := h.keep fun g hs => hg.block g (h.lt g hs) fun e => hT g hs e.symm
theorem flatten_five : ∀ (css : List (List Value)), (∀ cs ∈ css, cs.length = 5) → ∀ j c (h : j < css.length), c < 5 → css.flatten[j * 5 + c]? = (css.getD j [])[c]?
  | [], _, j, _, h, _ => absurd h (Nat.not_lt_zero _)
  | a :: css, hl, 0, c, _, hc => by
    have := hl a (by simp)
    simp only [List.flatten_cons, Nat.zero_mul, Nat.zero_add, List.getD_cons_zero]
    rw [List.getElem?_append_left (by omega)]
  | a :: css, hl, j + 1, c, h, hc => by
    have h5 := hl a (by simp)
    simp only [List.flatten_cons, List.getD_cons_succ]
    rw [List.getElem?_append_right (by omega), h5, show (j + 1) * 5 + c - 5 = j * 5 + c by omega]
    exact flatten_five css (fun cs hm => hl cs (by simp [hm])) j c (by simpa using h) hc
theorem VO.vis {v : V} {cs : List Value} {S : List Nat} (h : VO w v cs S) : VIs w (· ∈ S) v cs := by
  induction h with
  | @mk k i r t l s css Ss h1 h2 h3 h4 h5 h6 h7 h8 ih =>
    have hc5 : ∀ cs ∈ css, cs.length = 5 := fun cs hm => by
      obtain ⟨j, hj, rfl⟩ := List.getElem_of_mem hm
      have := (h8 j (by omega)).len
      rwa [List.getD_eq_getElem?_getD, List.getElem?_eq_getElem hj] at this
    have hform : ∃ a cap, s = .slice a l.length cap ∧ l.length ≤ cap ∧ cap ≤ maxLen := by
      rcases h7.2 with ⟨e, e2⟩ | ⟨g, off, cap', cur, e, hh, h1, h2, _, _⟩
      · exact ⟨_, _, e.trans (by rw [e2]), by omega, by decide⟩
      · exact ⟨_, _, e, h1, h2⟩
    obtain ⟨a, cap, rfl, hc1, hc2⟩ := hform
    refine .mk (fun j => css.getD j []) h1 h2 h3 h4 hc1 hc2 (fun h0 => ?_) fun j hj => (ih j hj).mono fun g hg => List.mem_append_right _ (flatten_mem (by omega) hg)
    obtain ⟨g, off, cap', hv, hg, _, _, hc, _⟩ := h7.form h0
    injection hv with e1 _ e3
    subst e1
    refine ⟨g, off, rfl, hg, List.mem_append_left _ (by simp [Value.ownBlock]), fun j c u hj hu => ?_⟩
    have hlen := (h8 j hj).len
    have hc' : c < 5 := by
      by_cases hh : c < 5
      · exact hh
      · rw [List.getElem?_eq_none (by omega)] at hu; cases hu
    rw [Nat.add_assoc, hc (j * 5 + c) (by omega), flatten_five css hc5 j c (by omega) hc']
    exact hu
theorem VIs.of_own {F : Nat → Prop} {v : V} {cs : List Value} {S : List Nat} (h : VO w v cs S) (hF : ∀ g ∈ S, F g) : VIs w F v cs := h.vis.mono hF
end
/-- A value that has no list. -/
theorem VO.plain {w : World} {k i : Int} {r : Nat} {t : ByteArray} (h1 : (Lit.int .i64 k).wf = true) (h2 : (Lit.int .i64 i).wf = true) (h3 : r < 18446744073709551616) (h4 : t.size ≤ maxLen) : VO w (.mk k i r t []) [iv k, iv i, fv r, .string t, .slice none 0 0] [] :=
  .mk (l := []) [] [] h1 h2 h3 h4 rfl rfl (Sl.nil _ _ _) fun j h => absurd h (Nat.not_lt_zero _)
/-- How reading goes on. -/
inductive PR where
  | ok (v : V) (pos : Nat) (room : Int)
  | bad (p e : Int)
mutual
/-- A value whose first byte has been taken (fuel, the bytes, the first byte, within so many lists, where, how much room). -/
def pval : Nat → List Nat → Nat → Nat → Nat → Int → PR
  | 0, _, _, _, _, _ => .bad 0 0
  | n + 1, bs, first, nest, at_, room =>
    if first = 6 ∧ nest = 8 then .bad (at_ - 1) 3
    else if first ≠ 5 ∧ 1 ≤ first ∧ first ≤ 6 ∧ room - 1 < 0 then .bad (at_ - 1) 3
    else if first = 1 then .ok (.mk 1 0 0 ⟨#[]⟩ []) at_ (room - 1)
    else if first = 2 then (match bs[at_]? with | none => .bad bs.length 2 | some c => if 1 < c then .bad at_ 4 else .ok (.mk 2 c 0 ⟨#[]⟩ []) (at_ + 1) (room - 1))
    else if first = 3 then (if at_ + 8 ≤ bs.length then .ok (.mk 3 (num ((bs.drop at_).take 8) - 9223372036854775808) 0 ⟨#[]⟩ []) (at_ + 8) (room - 1) else .bad bs.length 2)
    else if first = 4 then (if at_ + 8 ≤ bs.length then (match unkeyR (num ((bs.drop at_).take 8)) with | none => .bad at_ 4 | some b => .ok (.mk 4 0 b ⟨#[]⟩ []) (at_ + 8) (room - 1)) else .bad bs.length 2)
    else if first = 5 then (match ptext (bs.drop at_) at_ [] with | .short => .bad bs.length 2 | .form q => .bad q 4 | .done t q => if room - (1 + (t.length : Int)) < 0 then .bad (at_ - 1) 3 else .ok (.mk 5 0 0 (strB t) []) q (room - (1 + (t.length : Int))))
    else if first = 6 then plist n bs (nest + 1) at_ (room - 1) []
    else .bad (at_ - 1) 4
def plist : Nat → List Nat → Nat → Nat → Int → List V → PR
  | 0, _, _, _, _, _ => .bad 0 0
  | n + 1, bs, nest, at_, room, acc =>
    match bs[at_]? with
    | none => .bad bs.length 2
    | some c => if c = 0 then .ok (.mk 6 0 0 ⟨#[]⟩ acc) (at_ + 1) room else
      match pval n bs c nest (at_ + 1) room with
      | .bad p e => .bad p e
      | .ok v q rm => plist n bs nest q rm (acc ++ [v])
end
theorem ptext_pos : ∀ (n : Nat) (l : List Nat) (pos : Nat) (acc t : List Nat) (q : Nat), l.length ≤ n → ptext l pos acc = .done t q → pos ≤ q
  | n, [], pos, acc, t, q, _, h => by simp [ptext] at h
  | 0, c :: l, pos, acc, t, q, hl, h => by simp at hl
  | n + 1, c :: l, pos, acc, t, q, hl, h => by
    by_cases hc : c = 0
    · subst hc
      cases l with
      | nil => simp [ptext] at h
      | cons d l =>
        simp only [ptext, if_true] at h
        split at h
        · injection h; omega
        · split at h
          · have := ptext_pos n l (pos + 2) _ t q (by simp at hl; omega) h
            omega
          · cases h
    · rw [ptext_ne hc] at h
      have := ptext_pos n l (pos + 1) _ t q (by simpa using hl) h
      omega
mutual
theorem pval_ok : ∀ (n : Nat) (bs : List Nat) (first nest at_ : Nat) (room : Int) (v : V) (q : Nat) (rm : Int), 0 ≤ room → pval n bs first nest at_ room = .ok v q rm → at_ ≤ q ∧ 0 ≤ rm ∧ rm ≤ room
  | 0, bs, first, nest, at_, room, v, q, rm, h0, h => by simp [pval] at h
  | n + 1, bs, first, nest, at_, room, v, q, rm, h0, h => by
    unfold pval at h
    by_cases c1 : first = 6 ∧ nest = 8
    · rw [if_pos c1] at h; cases h
    rw [if_neg c1] at h
    by_cases c2 : first ≠ 5 ∧ 1 ≤ first ∧ first ≤ 6 ∧ room - 1 < 0
    · rw [if_pos c2] at h; cases h
    rw [if_neg c2] at h
    by_cases k1 : first = 1
    · rw [if_pos k1] at h; injection h; omega
    rw [if_neg k1] at h
    by_cases k2 : first = 2
    · rw [if_pos k2] at h
      split at h
      · cases h
      · split at h
        · cases h
        · injection h; omega
    rw [if_neg k2] at h
    by_cases k3 : first = 3
    · rw [if_pos k3] at h
      split at h
      · injection h; omega
      · cases h
    rw [if_neg k3] at h
    by_cases k4 : first = 4
    · rw [if_pos k4] at h
      split at h
      · split at h
        · cases h
        · injection h; omega
      · cases h
    rw [if_neg k4] at h
    by_cases k5 : first = 5
    · rw [if_pos k5] at h
      split at h
      · cases h
      · cases h
      · rename_i t q' ht
        split at h
        · cases h
        · have := ptext_pos _ _ _ _ _ _ (Nat.le_refl _) ht
          injection h; omega
    rw [if_neg k5] at h
    by_cases k6 : first = 6
    · rw [if_pos k6] at h
      have := plist_ok n bs (nest + 1) at_ (room - 1) [] v q rm (by omega) h
      omega
    rw [if_neg k6] at h
    cases h
theorem plist_ok : ∀ (n : Nat) (bs : List Nat) (nest at_ : Nat) (room : Int) (acc : List V) (v : V) (q : Nat) (rm : Int), 0 ≤ room → plist n bs nest at_ room acc = .ok v q rm → at_ ≤ q ∧ 0 ≤ rm ∧ rm ≤ room
  | 0, bs, nest, at_, room, acc, v, q, rm, h0, h => by simp [plist] at h
  | n + 1, bs, nest, at_, room, acc, v, q, rm, h0, h => by
    unfold plist at h
    split at h
    · cases h
    · split at h
      · injection h; omega
      · split at h
        · cases h
        · rename_i x q' rm' hx
          have h1 := pval_ok n bs _ nest (at_ + 1) room x q' rm' h0 hx
          have h2 := plist_ok n bs nest q' rm' _ v q rm (by omega) h
          omega
end
end Go.Proofs.Ytffdfegelgpniaa
/-
  Reading a value whose first byte has been taken.
-/
set_option linter.unusedSimpArgs false
set_option linter.unusedVariables false
namespace Go.Proofs.Ytffdfegelgpniaa
open Go.RowKit Go.Fl

def ValPost (w : World) (F : Nat → Prop) (r : Nat) (bs : List Nat) (s : Value) (res : PR) (e : Ending) (w' : World) : Prop :=
  match res with
  | .bad p c => e = .panicked [{ v := wrongV p c, recovered := false }] ∧ Only [r] w w'
  | .ok v q rm => ∃ cs S, e = .returned (.agg cs.toArray) ∧ VO w' v cs S ∧ S.Nodup ∧ (∀ g ∈ S, w.heap.size ≤ g) ∧ PS w' F r bs s q rm ∧ Only [r] w w'
def ValOk (n : Nat) : Prop := ∀ (w : World) (F : Nat → Prop) (r : Nat) (bs : List Nat) (s : Value) (first nest at_ : Nat) (room : Int), PS w F r bs s at_ room → 0 ≤ room → room ≤ 65536 → bs.length ≤ 2 ^ 40 → nest ≤ 8 → first < 256 → 2 * (bs.length - at_) + 2 ≤ n →
  Calls Try.prog 36 #[.pointer (some ⟨r, 0, none⟩), .int .u8 first, iv nest] w (ValPost w F r bs s (pval n bs first nest at_ room))
def LstOk (n : Nat) : Prop := ∀ (w : World) (F : Nat → Prop) (r : Nat) (bs : List Nat) (s : Value) (nest at_ : Nat) (room : Int), PS w F r bs s at_ room → 0 ≤ room → room ≤ 65536 → bs.length ≤ 2 ^ 40 → nest ≤ 8 → 2 * (bs.length - at_) + 1 ≤ n →
  Calls Try.prog 53 #[.pointer (some ⟨r, 0, none⟩), iv nest] w (ValPost w F r bs s (plist n bs nest at_ room []))
theorem PS.far {w w' : World} {F : Nat → Prop} {r b : Nat} {bs : List Nat} {s : Value} {at_ : Nat} {room : Int} (h : PS w F r bs s at_ room) (ho : Only [b] w w') (hr : r ≠ b) (hF : ∀ g, F g → g ≠ b) : PS w' F r bs s at_ room :=
  ⟨h.blk.only ho (by simpa using hr), h.bytes.only ho (fun g hg hm => hF g hg (by simpa using hm)), h.out, h.le⟩
abbrev zeroV : List Value := [.int .i64 0, .int .i64 0, .float .f64 0, .string ⟨#[]⟩, .slice none 0 0]
theorem wf_nat {c : Nat} (h : c < 256) : (Lit.int .i64 c).wf = true := by
  simp [Lit.wf, IntKind.min, IntKind.max, IntKind.bits, IntKind.signed]
  omega
set_option maxRecDepth 100000 in
set_option maxHeartbeats 3200000 in
theorem val_one (n : Nat) : ∀ (w : World) (F : Nat → Prop) (r : Nat) (bs : List Nat) (s : Value) (first nest at_ : Nat) (room : Int), PS w F r bs s at_ room → 0 ≤ room → room ≤ 65536 → bs.length ≤ 2 ^ 40 → nest ≤ 8 → first = 1 → 2 * (bs.length - at_) + 2 ≤ n →
    Calls Try.prog 36 #[.pointer (some ⟨r, 0, none⟩), .int .u8 first, iv nest] w (ValPost w F r bs s (pval n bs first nest at_ room)) := by
  intro w F r bs s first nest at_ room h h0 h1 hbl hn hf hfu
  obtain ⟨n, rfl⟩ : ∃ m, n = m + 1 := ⟨n - 1, by omega⟩
  have hFr := h.out
  have hst := h.strict
  have HBB := Lib.hid (show ∀ c ∈ bs, c < 256 by obtain ⟨_, _, _, _, _, hb, _⟩ := h.bytes; exact hb)
  have hrl := h.blk.lt
  have hle := h.le
  clear h
  obtain ⟨G, hG⟩ : ∃ G : Nat → Prop, G = fun g => F g ∧ g < w.heap.size := ⟨_, rfl⟩
  rw [← hG] at hst
  have HG := Lib.hid (show ∀ g, G g → F g ∧ g < w.heap.size by rw [hG]; exact fun _ h => h)
  have HGF := Lib.hid (show ∀ (w' : World) (q : Nat) (rm : Int), PS w' G r bs s q rm → PS w' F r bs s q rm from fun _ _ _ h => h.mono (fun g hg => (HG.out g hg).1) hFr)
  have H := Lib.hid hst
  clear hst hG
  obtain ⟨w0, hw0⟩ : ∃ x : World, x = w.alloc (.cells zeroV.toArray 33) := ⟨_, rfl⟩
  have HW0 := Lib.hid hw0
  have HB0 := Lib.hid (show Blk w0 w.heap.size 33 zeroV.toArray by rw [hw0]; exact Blk.new _ _ _)
  have HO0 := Lib.hid (show Only [] w w0 by rw [hw0]; exact (Only.refl _ w).alloc _)
  have HO1 := Lib.hid (HO0.out.mono (T := [r]) (by simp))
  have HP0 := Lib.hid (H.out.only HO0.out)
  have x1 := H.out.blk.cell 1
  simp at x1
  clear hw0
  subst hf
  have HC := Lib.hid (count_ok HP0.out 1 (at_ - 1) h0 h1 (by omega) (by omega))
  go_enter Try.func36, Try.ntmps36
  go_wp2_with fail
  rw [← HW0.out]
  refine HC.out.mono ?_
  clear HC
  intro e w1 hc
  unfold CountPost at hc
  by_cases hrm : room - 1 < 0
  · rw [if_pos hrm] at hc
    obtain ⟨rfl, ho⟩ := hc
    have HO := Lib.hid (HO1.out.trans ho)
    have HF := Lib.hid (show pval (n + 1) bs 1 nest at_ room = .bad (at_ - 1) 3 by unfold pval; rw [if_neg (by omega), if_pos (by omega)])
    clear ho
    go_wp2
    refine ⟨rfl, ?_⟩
    rw [HF.out]
    exact ⟨rfl, HO.out⟩
  rw [if_neg hrm] at hc
  obtain ⟨rfl, hps, ho⟩ := hc
  have HP := Lib.hid hps
  have HO := Lib.hid (HO1.out.trans ho)
  have HB := Lib.hid (HB0.out.only ho (by simp; omega))
  clear hps ho x1 HP0 HB0 HO0 HO1
  have HF := Lib.hid (show pval (n + 1) bs 1 nest at_ room = .ok (.mk 1 0 0 ⟨#[]⟩ []) at_ (room - 1) by unfold pval; rw [if_neg (by omega), if_neg (by omega)]; rfl)
  go_wp2_with (refine wpList_store_blk rfl 33 (.tmp 6) (.tmp 40) rfl [iv 1, iv 0, fv 0, .string ⟨#[]⟩, .slice none 0 0] rfl rfl HB.out (by kernel_rfl) (by simp) (by simp [Value.oneCell']) ?_)
  intro w2 hB2 hO2
  have HB2 := Lib.hid hB2
  have HO2 := Lib.hid hO2
  clear hB2 hO2
  go_wp2
  refine bodyPost_ret (results1 rfl (res_blk (cs := [iv 1, iv 0, fv 0, .string ⟨#[]⟩, .slice none 0 0]) Try.underlying33 (by kernel_rfl) rfl HB2.out)) rfl ?_
  rw [HF.out]
  exact ⟨[iv 1, iv 0, fv 0, .string ⟨#[]⟩, .slice none 0 0], [], rfl, VO.plain (by decide) (by decide) (by omega) (Nat.zero_le _), List.nodup_nil, (fun g hg => by cases hg), HGF.out _ _ _ (HP.out.far HO2.out (by omega) (fun g hg => by have := (HG.out g hg).2; omega)), HO.out.trans' HO2.out (fun i hi => .inr (by simp at hi; omega))⟩
set_option maxRecDepth 100000 in
set_option maxHeartbeats 3200000 in
theorem val_two (n : Nat) : ∀ (w : World) (F : Nat → Prop) (r : Nat) (bs : List Nat) (s : Value) (first nest at_ : Nat) (room : Int), PS w F r bs s at_ room → 0 ≤ room → room ≤ 65536 → bs.length ≤ 2 ^ 40 → nest ≤ 8 → first = 2 → 2 * (bs.length - at_) + 2 ≤ n →
    Calls Try.prog 36 #[.pointer (some ⟨r, 0, none⟩), .int .u8 first, iv nest] w (ValPost w F r bs s (pval n bs first nest at_ room)) := by
  intro w F r bs s first nest at_ room h h0 h1 hbl hn hf hfu
  obtain ⟨n, rfl⟩ : ∃ m, n = m + 1 := ⟨n - 1, by omega⟩
  have hFr := h.out
  have hst := h.strict
  have HBB := Lib.hid (show ∀ c ∈ bs, c < 256 by obtain ⟨_, _, _, _, _, hb, _⟩ := h.bytes; exact hb)
  have hrl := h.blk.lt
  have hle := h.le
  clear h
  obtain ⟨G, hG⟩ : ∃ G : Nat → Prop, G = fun g => F g ∧ g < w.heap.size := ⟨_, rfl⟩
  rw [← hG] at hst
  have HG := Lib.hid (show ∀ g, G g → F g ∧ g < w.heap.size by rw [hG]; exact fun _ h => h)
  have HGF := Lib.hid (show ∀ (w' : World) (q : Nat) (rm : Int), PS w' G r bs s q rm → PS w' F r bs s q rm from fun _ _ _ h => h.mono (fun g hg => (HG.out g hg).1) hFr)
  have H := Lib.hid hst
  clear hst hG
  obtain ⟨w0, hw0⟩ : ∃ x : World, x = w.alloc (.cells zeroV.toArray 33) := ⟨_, rfl⟩
  have HW0 := Lib.hid hw0
  have HB0 := Lib.hid (show Blk w0 w.heap.size 33 zeroV.toArray by rw [hw0]; exact Blk.new _ _ _)
  have HO0 := Lib.hid (show Only [] w w0 by rw [hw0]; exact (Only.refl _ w).alloc _)
  have HO1 := Lib.hid (HO0.out.mono (T := [r]) (by simp))
  have HP0 := Lib.hid (H.out.only HO0.out)
  have x1 := H.out.blk.cell 1
  simp at x1
  clear hw0
  subst hf
  have HC := Lib.hid (count_ok HP0.out 1 (at_ - 1) h0 h1 (by omega) (by omega))
  go_enter Try.func36, Try.ntmps36
  go_wp2_with fail
  rw [← HW0.out]
  refine HC.out.mono ?_
  clear HC
  intro e w1 hc
  unfold CountPost at hc
  by_cases hrm : room - 1 < 0
  · rw [if_pos hrm] at hc
    obtain ⟨rfl, ho⟩ := hc
    have HO := Lib.hid (HO1.out.trans ho)
    have HF := Lib.hid (show pval (n + 1) bs 2 nest at_ room = .bad (at_ - 1) 3 by unfold pval; rw [if_neg (by omega), if_pos (by omega)])
    clear ho
    go_wp2
    refine ⟨rfl, ?_⟩
    rw [HF.out]
    exact ⟨rfl, HO.out⟩
  rw [if_neg hrm] at hc
  obtain ⟨rfl, hps, ho⟩ := hc
  have HP := Lib.hid hps
  have HO := Lib.hid (HO1.out.trans ho)
  have HB := Lib.hid (HB0.out.only ho (by simp; omega))
  clear hps ho x1 HP0 HB0 HO0 HO1
  have HN := Lib.hid (next_ok HP.out)
  go_wp2_with fail
  refine HN.out.mono ?_
  clear HN
  intro e w2 hn
  unfold NextPost at hn
  by_cases hk : at_ < bs.length
  · rw [List.getElem?_eq_getElem hk] at hn
    obtain ⟨rfl, hps, ho⟩ := hn
    have HF0 := Lib.hid (show pval (n + 1) bs 2 nest at_ room = (if 1 < bs[at_] then .bad at_ 4 else .ok (.mk 2 bs[at_] 0 ⟨#[]⟩ []) (at_ + 1) (room - 1)) by unfold pval; rw [if_neg (by omega), if_neg (by omega), if_neg (by omega), if_pos rfl, List.getElem?_eq_getElem hk])
    have hcb := HBB.out _ (List.getElem_mem hk)
    generalize bs[at_] = c at *
    have HP2 := Lib.hid hps
    have HO3 := Lib.hid (HO.out.trans ho)
    have HB3 := Lib.hid (HB.out.only ho (by simp; omega))
    clear hps ho HP HO HB
    by_cases hc1 : 1 < c
    · have hc2 : (1 : Int) < (c : Int) := by omega
      have HF := Lib.hid (show pval (n + 1) bs 2 nest at_ room = .bad at_ 4 by rw [HF0.out, if_pos hc1])
      have x1 := HP2.out.blk.cell 1
      simp at x1
      clear HF0
      go_wp2_with fail
      refine (fail_ok _ _ _).mono ?_
      rintro e w3 ⟨rfl, rfl⟩
      go_wp2
      refine ⟨rfl, ?_⟩
      rw [HF.out]
      refine ⟨?_, HO3.out⟩
      exact congrArg (fun z => Ending.panicked [{ v := wrongV z 4, recovered := false }]) (by omega)
    · have hc2 : ¬ (1 : Int) < (c : Int) := by omega
      have HF := Lib.hid (show pval (n + 1) bs 2 nest at_ room = .ok (.mk 2 c 0 ⟨#[]⟩ []) (at_ + 1) (room - 1) by rw [HF0.out, if_neg hc1])
      have HP := HP2
      have HO := HO3
      have HB := HB3
      clear HF0 HP2 HO3 HB3
      go_wp2_with (refine wpList_store_blk rfl 33 (.tmp 6) (.tmp 55) rfl [iv 2, iv c, fv 0, .string ⟨#[]⟩, .slice none 0 0] rfl rfl HB.out (by kernel_rfl) (by simp) (by simp [Value.oneCell']) ?_)
      intro w2 hB2 hO2
      have HB2 := Lib.hid hB2
      have HO2 := Lib.hid hO2
      clear hB2 hO2
      go_wp2
      refine bodyPost_ret (results1 rfl (res_blk (cs := [iv 2, iv c, fv 0, .string ⟨#[]⟩, .slice none 0 0]) Try.underlying33 (by kernel_rfl) rfl HB2.out)) rfl ?_
      rw [HF.out]
      exact ⟨[iv 2, iv c, fv 0, .string ⟨#[]⟩, .slice none 0 0], [], rfl, VO.plain (by decide) (wf_nat (by omega)) (by omega) (Nat.zero_le _), List.nodup_nil, (fun g hg => by cases hg), HGF.out _ _ _ (HP.out.far HO2.out (by omega) (fun g hg => by have := (HG.out g hg).2; omega)), HO.out.trans' HO2.out (fun i hi => .inr (by simp at hi; omega))⟩
  · rw [List.getElem?_eq_none (by omega)] at hn
    obtain ⟨rfl, ho⟩ := hn
    have HF := Lib.hid (show pval (n + 1) bs 2 nest at_ room = .bad bs.length 2 by unfold pval; rw [if_neg (by omega), if_neg (by omega), if_neg (by omega), if_pos rfl, List.getElem?_eq_none (by omega)])
    have HO2 := Lib.hid (HO.out.trans ho)
    clear ho
    go_wp2
    refine ⟨rfl, ?_⟩
    rw [HF.out]
    exact ⟨rfl, HO2.out⟩
set_option maxRecDepth 100000 in
set_option maxHeartbeats 3200000 in
theorem val_other (n : Nat) : ∀ (w : World) (F : Nat → Prop) (r : Nat) (bs : List Nat) (s : Value) (first nest at_ : Nat) (room : Int), PS w F r bs s at_ room → 0 ≤ room → room ≤ 65536 → bs.length ≤ 2 ^ 40 → nest ≤ 8 → first < 256 ∧ ¬ (1 ≤ first ∧ first ≤ 6) → 2 * (bs.length - at_) + 2 ≤ n →
    Calls Try.prog 36 #[.pointer (some ⟨r, 0, none⟩), .int .u8 first, iv nest] w (ValPost w F r bs s (pval n bs first nest at_ room)) := by
  intro w F r bs s first nest at_ room h h0 h1 hbl hn hf hfu
  obtain ⟨n, rfl⟩ : ∃ m, n = m + 1 := ⟨n - 1, by omega⟩
  have hFr := h.out
  have hst := h.strict
  have HBB := Lib.hid (show ∀ c ∈ bs, c < 256 by obtain ⟨_, _, _, _, _, hb, _⟩ := h.bytes; exact hb)
  have hrl := h.blk.lt
  have hle := h.le
  clear h
  obtain ⟨G, hG⟩ : ∃ G : Nat → Prop, G = fun g => F g ∧ g < w.heap.size := ⟨_, rfl⟩
  rw [← hG] at hst
  have HG := Lib.hid (show ∀ g, G g → F g ∧ g < w.heap.size by rw [hG]; exact fun _ h => h)
  have HGF := Lib.hid (show ∀ (w' : World) (q : Nat) (rm : Int), PS w' G r bs s q rm → PS w' F r bs s q rm from fun _ _ _ h => h.mono (fun g hg => (HG.out g hg).1) hFr)
  have H := Lib.hid hst
  clear hst hG
  obtain ⟨w0, hw0⟩ : ∃ x : World, x = w.alloc (.cells zeroV.toArray 33) := ⟨_, rfl⟩
  have HW0 := Lib.hid hw0
  have HB0 := Lib.hid (show Blk w0 w.heap.size 33 zeroV.toArray by rw [hw0]; exact Blk.new _ _ _)
  have HO0 := Lib.hid (show Only [] w w0 by rw [hw0]; exact (Only.refl _ w).alloc _)
  have HO1 := Lib.hid (HO0.out.mono (T := [r]) (by simp))
  have HP0 := Lib.hid (H.out.only HO0.out)
  have x1 := H.out.blk.cell 1
  simp at x1
  clear hw0
  have q1 : ((first : Int) == 1) = false := by rw [beq_eq_false_iff_ne]; omega
  have q2 : ((first : Int) == 2) = false := by rw [beq_eq_false_iff_ne]; omega
  have q3 : ((first : Int) == 3) = false := by rw [beq_eq_false_iff_ne]; omega
  have q4 : ((first : Int) == 4) = false := by rw [beq_eq_false_iff_ne]; omega
  have q5 : ((first : Int) == 5) = false := by rw [beq_eq_false_iff_ne]; omega
  have q6 : ((first : Int) == 6) = false := by rw [beq_eq_false_iff_ne]; omega
  have q7 : ((first : Int) != 5) = true := by rw [bne_iff_ne]; omega
  have HF := Lib.hid (show pval (n + 1) bs first nest at_ room = .bad (at_ - 1) 4 by unfold pval; rw [if_neg (by omega), if_neg (by omega), if_neg (by omega), if_neg (by omega), if_neg (by omega), if_neg (by omega), if_neg (by omega), if_neg (by omega)])
  by_cases hz : first = 0
  · subst hz
    go_enter Try.func36, Try.ntmps36
    go_wp2_with fail
    refine (fail_ok _ _ _).mono ?_
    rintro e w3 ⟨rfl, rfl⟩
    rw [← HW0.out]
    go_wp2
    refine ⟨rfl, ?_⟩
    rw [HF.out]
    exact ⟨rfl, HO1.out⟩
  · have g1 : decide ((1 : Int) ≤ (first : Int)) = true := by simp; omega
    have g2 : decide ((first : Int) ≤ 6) = false := by simp; omega
    go_enter Try.func36, Try.ntmps36
    go_wp2_with fail
    refine (fail_ok _ _ _).mono ?_
    rintro e w3 ⟨rfl, rfl⟩
    rw [← HW0.out]
    go_wp2
    refine ⟨rfl, ?_⟩
    rw [HF.out]
    exact ⟨rfl, HO1.out⟩
end Go.Proofs.Ytffdfegelgpniaa
