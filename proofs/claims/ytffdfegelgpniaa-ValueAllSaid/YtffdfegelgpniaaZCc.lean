/-
  The document's reading: a value.
-/
import Derived.Test.YtffdfegelgpniaaZCb
set_option linter.unusedSimpArgs false
set_option linter.unusedVariables false
set_option linter.unusedSimpArgs false
set_option linter.unusedVariables false
namespace Go.Proofs.Ytffdfegelgpniaa
open Go.RowKit Go.Fl

def RValPost (w : World) (F : Nat → Prop) (r : Nat) (bs : List Nat) (s : Value) (res : PR) (e : Ending) (w' : World) : Prop :=
  match res with
  | .bad p c => e = .returned (.agg zeroV.toArray) ∧ Failed w w' r s p c
  | .ok v q rm => ∃ cs S, e = .returned (.agg cs.toArray) ∧ VO w' v cs S ∧ S.Nodup ∧ (∀ g ∈ S, w.heap.size ≤ g) ∧ RG w' F r bs s q rm ∧ Only [r] w w'
/-- What the document reads at a place. -/
def rval (n : Nat) (bs : List Nat) (nest at_ : Nat) (left : Int) : PR := match bs[at_]? with
  | none => .bad bs.length 2
  | some c => pval n bs c nest (at_ + 1) left
def RValOk (n : Nat) : Prop := ∀ (w : World) (F : Nat → Prop) (r : Nat) (bs : List Nat) (s : Value) (nest at_ : Nat) (left : Int), RG w F r bs s at_ left → 0 ≤ left → left ≤ 65536 → bs.length ≤ 2 ^ 40 → nest ≤ 8 → (at_ < bs.length → 2 * (bs.length - (at_ + 1)) + 2 ≤ n) →
  Calls Try.prog 38 #[.pointer (some ⟨r, 0, none⟩), iv nest] w (RValPost w F r bs s (rval n bs nest at_ left))
def RLstOk (n : Nat) : Prop := ∀ (w : World) (F : Nat → Prop) (r : Nat) (bs : List Nat) (s : Value) (nest at_ : Nat) (left : Int), RG w F r bs s at_ left → 0 ≤ left → left ≤ 65536 → bs.length ≤ 2 ^ 40 → nest ≤ 8 → 2 * (bs.length - at_) + 1 ≤ n →
  Calls Try.prog 58 #[.pointer (some ⟨r, 0, none⟩), iv nest] w (RValPost w F r bs s (plist n bs nest at_ left []))
set_option maxRecDepth 100000 in
set_option maxHeartbeats 3200000 in
theorem rval_end (n : Nat) : ∀ (w : World) (F : Nat → Prop) (r : Nat) (bs : List Nat) (s : Value) (nest at_ : Nat) (left : Int), RG w F r bs s at_ left → 0 ≤ left → left ≤ 65536 → bs.length ≤ 2 ^ 40 → nest ≤ 8 → ¬ at_ < bs.length →
    Calls Try.prog 38 #[.pointer (some ⟨r, 0, none⟩), iv nest] w (RValPost w F r bs s (rval n bs nest at_ left)) := by
  intro w F r bs s nest at_ left h h0 h1 hbl hn hfu
  have hFr := h.out
  have hst := h.strict
  have HBB := Lib.hid (show ∀ c ∈ bs, c < 256 by obtain ⟨_, _, _, _, _, hb, _⟩ := h.bytes; exact hb)
  have hrl := h.blk.lt
  have hle := h.le
  have hform : ∃ sa sc, s = .slice sa bs.length sc := by obtain ⟨a, cap, e, _⟩ := h.bytes; exact ⟨a, cap, e⟩
  obtain ⟨sa, sc, rfl⟩ := hform
  clear h
  obtain ⟨G, hG⟩ : ∃ G : Nat → Prop, G = fun g => F g ∧ g < w.heap.size := ⟨_, rfl⟩
  rw [← hG] at hst
  have HG := Lib.hid (show ∀ g, G g → F g ∧ g < w.heap.size by rw [hG]; exact fun _ h => h)
  have HGF := Lib.hid (show ∀ (w' : World) (q : Nat) (rm : Int), RG w' G r bs (.slice sa bs.length sc) q rm → RG w' F r bs (.slice sa bs.length sc) q rm from fun _ _ _ h => h.mono (fun g hg => (HG.out g hg).1) hFr)
  have H := Lib.hid hst
  clear hst hG
  obtain ⟨hc, hf, hlt⟩ := H.out.blk.facts
  have x0 := hc 0
  have x1 := hc 1
  have x2 := hc 2
  have x3 := hc 3
  have f1 := hf 1
  have f2 := hf 2
  simp at x0 x1 x2 x3
  clear hc hf
  have hpz : ((at_ : Int) == (bs.length : Int)) = true := by rw [beq_iff_eq]; omega
  have HF := Lib.hid (show rval n bs nest at_ left = .bad at_ 2 by
    have e : bs.length = at_ := by omega
    unfold rval
    rw [List.getElem?_eq_none (by omega), e])
  go_enter Try.func38, Try.ntmps38
  go_wp2
  refine Lex.wp_region_text (by kernel_rfl) (by kernel_rfl) ?_
  go_wp2
  refine Lex.sq_done (by rfl) ?_
  go_wp2_with fail
  have HOB := Lib.hid (show Only [r] w (w.alloc (.cells zeroV.toArray 33)).drew ∧ Blk (w.alloc (.cells zeroV.toArray 33)).drew w.heap.size 33 zeroV.toArray from ⟨((Only.refl _ _).alloc _).drew, (Blk.new _ _ _).drew⟩)
  refine (fail2_ok (H.out.blk.alloc (.cells zeroV.toArray 33)).drew (at_ : Int) 2).mono ?_
  rintro e w8 ⟨rfl, ⟨left8, hb8⟩, ho8⟩
  have hz8 := HOB.out.2.only ho8 (by simp; omega)
  have HB8 := Lib.hid hb8
  have HO8 := Lib.hid (HOB.out.1.trans ho8)
  clear hb8 ho8
  go_wp2_with (refine wpList_store_blk rfl 33 (.tmp 4) (.tmp 28) rfl zeroV rfl rfl hz8 (by kernel_rfl) (by simp) (by simp [Value.oneCell']) ?_)
  intro w9 hB9 hO9
  have HB9 := Lib.hid (show Blk w9 w.heap.size 33 zeroV.toArray from hB9)
  have HO9 := Lib.hid hO9
  clear hB9 hO9 hz8
  go_wp2
  refine bodyPost_ret (results1 rfl (res_blk (cs := zeroV) Try.underlying33 (by kernel_rfl) rfl HB9.out)) rfl ?_
  rw [HF.out]
  exact ⟨rfl, ⟨left8, HB8.out.only HO9.out (by simp; omega)⟩, HO8.out.trans' HO9.out fun i hi => .inr (by simp at hi; omega)⟩
set_option maxRecDepth 100000 in
set_option maxHeartbeats 3200000 in
theorem rval_other (n : Nat) : ∀ (w : World) (F : Nat → Prop) (r : Nat) (bs : List Nat) (s : Value) (nest at_ : Nat) (left : Int), RG w F r bs s at_ left → 0 ≤ left → left ≤ 65536 → bs.length ≤ 2 ^ 40 → nest ≤ 8 → (at_ < bs.length → 2 * (bs.length - (at_ + 1)) + 2 ≤ n) → ∀ (hp : at_ < bs.length), bs[at_] < 1 ∨ 6 < bs[at_] →
    Calls Try.prog 38 #[.pointer (some ⟨r, 0, none⟩), iv nest] w (RValPost w F r bs s (rval n bs nest at_ left)) := by
  intro w F r bs s nest at_ left h h0 h1 hbl hn hfu
  have hFr := h.out
  have hst := h.strict
  have HBB := Lib.hid (show ∀ c ∈ bs, c < 256 by obtain ⟨_, _, _, _, _, hb, _⟩ := h.bytes; exact hb)
  have hrl := h.blk.lt
  have hle := h.le
  have hform : ∃ sa sc, s = .slice sa bs.length sc := by obtain ⟨a, cap, e, _⟩ := h.bytes; exact ⟨a, cap, e⟩
  obtain ⟨sa, sc, rfl⟩ := hform
  clear h
  obtain ⟨G, hG⟩ : ∃ G : Nat → Prop, G = fun g => F g ∧ g < w.heap.size := ⟨_, rfl⟩
  rw [← hG] at hst
  have HG := Lib.hid (show ∀ g, G g → F g ∧ g < w.heap.size by rw [hG]; exact fun _ h => h)
  have HGF := Lib.hid (show ∀ (w' : World) (q : Nat) (rm : Int), RG w' G r bs (.slice sa bs.length sc) q rm → RG w' F r bs (.slice sa bs.length sc) q rm from fun _ _ _ h => h.mono (fun g hg => (HG.out g hg).1) hFr)
  have H := Lib.hid hst
  clear hst hG
  obtain ⟨hc, hf, hlt⟩ := H.out.blk.facts
  have x0 := hc 0
  have x1 := hc 1
  have x2 := hc 2
  have x3 := hc 3
  have f1 := hf 1
  have f2 := hf 2
  simp at x0 x1 x2 x3
  clear hc hf
  intro hp hf
  have hpz : ((at_ : Int) == (bs.length : Int)) = false := by rw [beq_eq_false_iff_ne]; omega
  have hpl : (at_ : Int) < (bs.length : Int) := by omega
  obtain ⟨sa', sc', es, _, _, _, hcell⟩ := H.out.bytes
  injection es with e1 _ e3
  subst e1
  subst e3
  obtain ⟨g, off, rfl, hg, hgG, hcc⟩ := hcell (by omega)
  have y0 := hcc at_ hp
  have hcb := HBB.out _ (List.getElem_mem hp)
  have HF0 := Lib.hid (show rval n bs nest at_ left = pval n bs bs[at_] nest (at_ + 1) left by unfold rval; rw [List.getElem?_eq_getElem hp])
  clear hcell hcc
  obtain ⟨n, rfl⟩ : ∃ m, n = m + 1 := ⟨n - 1, by omega⟩
  generalize bs[at_] = c at *
  have HF := Lib.hid (HF0.out.trans (show _ = PR.bad (at_ : Int) 4 by unfold pval; rw [if_neg (by omega), if_neg (by omega), if_neg (by omega), if_neg (by omega), if_neg (by omega), if_neg (by omega), if_neg (by omega), if_neg (by omega)]; congr 1; omega))
  have HOB := Lib.hid (show Only [r] w (w.alloc (.cells zeroV.toArray 33)).drew ∧ Blk (w.alloc (.cells zeroV.toArray 33)).drew w.heap.size 33 zeroV.toArray from ⟨((Only.refl _ _).alloc _).drew, (Blk.new _ _ _).drew⟩)
  rcases hf with hf | hf
  · have hcz : (c : Int) < 1 := by omega
    go_enter Try.func38, Try.ntmps38
    go_wp2
    refine Lex.wp_region_text (by kernel_rfl) (by kernel_rfl) ?_
    go_wp2
    refine Lex.sq_done (by rfl) ?_
    go_wp2_with fail
    refine (fail2_ok (H.out.blk.alloc (.cells zeroV.toArray 33)).drew (at_ : Int) 4).mono ?_
    rintro e w8 ⟨rfl, ⟨left8, hb8⟩, ho8⟩
    have hz8 := HOB.out.2.only ho8 (by simp; omega)
    have HB8 := Lib.hid hb8
    have HO8 := Lib.hid (HOB.out.1.trans ho8)
    clear hb8 ho8
    go_wp2_with (refine wpList_store_blk rfl 33 (.tmp 4) (.tmp 49) rfl zeroV rfl rfl hz8 (by kernel_rfl) (by simp) (by simp [Value.oneCell']) ?_)
    intro w9 hB9 hO9
    have HB9 := Lib.hid (show Blk w9 w.heap.size 33 zeroV.toArray from hB9)
    have HO9 := Lib.hid hO9
    clear hB9 hO9 hz8
    go_wp2
    refine bodyPost_ret (results1 rfl (res_blk (cs := zeroV) Try.underlying33 (by kernel_rfl) rfl HB9.out)) rfl ?_
    rw [HF.out]
    exact ⟨rfl, ⟨left8, HB8.out.only HO9.out (by simp; omega)⟩, HO8.out.trans' HO9.out fun i hi => .inr (by simp at hi; omega)⟩
  · have hcz : ¬ (c : Int) < 1 := by omega
    have hcy : (6 : Int) < (c : Int) := by omega
    go_enter Try.func38, Try.ntmps38
    go_wp2
    refine Lex.wp_region_text (by kernel_rfl) (by kernel_rfl) ?_
    go_wp2
    refine Lex.sq_done (by rfl) ?_
    go_wp2_with fail
    refine (fail2_ok (H.out.blk.alloc (.cells zeroV.toArray 33)).drew (at_ : Int) 4).mono ?_
    rintro e w8 ⟨rfl, ⟨left8, hb8⟩, ho8⟩
    have hz8 := HOB.out.2.only ho8 (by simp; omega)
    have HB8 := Lib.hid hb8
    have HO8 := Lib.hid (HOB.out.1.trans ho8)
    clear hb8 ho8
    go_wp2_with (refine wpList_store_blk rfl 33 (.tmp 4) (.tmp 49) rfl zeroV rfl rfl hz8 (by kernel_rfl) (by simp) (by simp [Value.oneCell']) ?_)
    intro w9 hB9 hO9
    have HB9 := Lib.hid (show Blk w9 w.heap.size 33 zeroV.toArray from hB9)
    have HO9 := Lib.hid hO9
    clear hB9 hO9 hz8
    go_wp2
    refine bodyPost_ret (results1 rfl (res_blk (cs := zeroV) Try.underlying33 (by kernel_rfl) rfl HB9.out)) rfl ?_
    rw [HF.out]
    exact ⟨rfl, ⟨left8, HB8.out.only HO9.out (by simp; omega)⟩, HO8.out.trans' HO9.out fun i hi => .inr (by simp at hi; omega)⟩
set_option maxRecDepth 100000 in
set_option maxHeartbeats 3200000 in
theorem rval_one (n : Nat) : ∀ (w : World) (F : Nat → Prop) (r : Nat) (bs : List Nat) (s : Value) (nest at_ : Nat) (left : Int), RG w F r bs s at_ left → 0 ≤ left → left ≤ 65536 → bs.length ≤ 2 ^ 40 → nest ≤ 8 → (at_ < bs.length → 2 * (bs.length - (at_ + 1)) + 2 ≤ n) → ∀ (hp : at_ < bs.length), bs[at_] = 1 →
    Calls Try.prog 38 #[.pointer (some ⟨r, 0, none⟩), iv nest] w (RValPost w F r bs s (rval n bs nest at_ left)) := by
  intro w F r bs s nest at_ left h h0 h1 hbl hn hfu
  have hFr := h.out
  have hst := h.strict
  have HBB := Lib.hid (show ∀ c ∈ bs, c < 256 by obtain ⟨_, _, _, _, _, hb, _⟩ := h.bytes; exact hb)
  have hrl := h.blk.lt
  have hle := h.le
  have hform : ∃ sa sc, s = .slice sa bs.length sc := by obtain ⟨a, cap, e, _⟩ := h.bytes; exact ⟨a, cap, e⟩
  obtain ⟨sa, sc, rfl⟩ := hform
  clear h
  obtain ⟨G, hG⟩ : ∃ G : Nat → Prop, G = fun g => F g ∧ g < w.heap.size := ⟨_, rfl⟩
  rw [← hG] at hst
  have HG := Lib.hid (show ∀ g, G g → F g ∧ g < w.heap.size by rw [hG]; exact fun _ h => h)
  have HGF := Lib.hid (show ∀ (w' : World) (q : Nat) (rm : Int), RG w' G r bs (.slice sa bs.length sc) q rm → RG w' F r bs (.slice sa bs.length sc) q rm from fun _ _ _ h => h.mono (fun g hg => (HG.out g hg).1) hFr)
  have H := Lib.hid hst
  clear hst hG
  obtain ⟨hc, hf, hlt⟩ := H.out.blk.facts
  have x0 := hc 0
  have x1 := hc 1
  have x2 := hc 2
  have x3 := hc 3
  have f1 := hf 1
  have f2 := hf 2
  simp at x0 x1 x2 x3
  clear hc hf
  intro hp hf
  have hpz : ((at_ : Int) == (bs.length : Int)) = false := by rw [beq_eq_false_iff_ne]; omega
  have hpl : (at_ : Int) < (bs.length : Int) := by omega
  obtain ⟨sa', sc', es, _, _, _, hcell⟩ := H.out.bytes
  injection es with e1 _ e3
  subst e1
  subst e3
  obtain ⟨g, off, rfl, hg, hgG, hcc⟩ := hcell (by omega)
  have y0 := hcc at_ hp
  have hgr : g ≠ r := fun e => H.out.out (e ▸ hgG)
  have HF0 := Lib.hid (show rval n bs nest at_ left = pval n bs bs[at_] nest (at_ + 1) left by unfold rval; rw [List.getElem?_eq_getElem hp])
  clear hcell hcc
  rw [hf] at HF0
  rw [hf] at y0
  obtain ⟨n, rfl⟩ : ∃ m, n = m + 1 := ⟨n - 1, by omega⟩
  have HST := Lib.hid (H.out.step hp)
  obtain ⟨wA, hwA⟩ : ∃ x : World, x = ((w.setCell ⟨r, 1, none⟩ (.int .i64 (at_ + 1))).alloc (.cells zeroV.toArray 33)).drew := ⟨_, rfl⟩
  have HA := Lib.hid (show RG wA G r bs (.slice (some ⟨g, off, none⟩) bs.length sc) (at_ + 1) left ∧ Only [r] w wA ∧ Blk wA w.heap.size 33 zeroV.toArray by
    rw [hwA]
    refine ⟨HST.out.only ((Only.refl _ _).alloc _).drew, (((Only.refl _ _).setCell (.inl (by simp)) _).alloc _).drew, ?_⟩
    have h := Blk.new (w.setCell ⟨r, 1, none⟩ (.int .i64 (at_ + 1))) 33 zeroV.toArray
    rw [show (w.setCell ⟨r, 1, none⟩ (.int .i64 (at_ + 1))).heap.size = w.heap.size by simp] at h
    exact h.drew)
  have HWA := Lib.hid hwA
  clear hwA
  obtain ⟨wB, hwB⟩ : ∃ x : World, x = (((w.setCell ⟨r, 1, none⟩ (.int .i64 (at_ + 1))).setCell ⟨r, 2, none⟩ (.int .i64 (left - 1))).alloc (.cells zeroV.toArray 33)).drew := ⟨_, rfl⟩
  have HB := Lib.hid (show RG wB G r bs (.slice (some ⟨g, off, none⟩) bs.length sc) (at_ + 1) (left - 1) ∧ Only [r] w wB ∧ Blk wB w.heap.size 33 zeroV.toArray by
    rw [hwB]
    refine ⟨(HST.out.put (show Blk ((w.setCell ⟨r, 1, none⟩ (.int .i64 (at_ + 1))).setCell ⟨r, 2, none⟩ (.int .i64 (left - 1))) r 67 #[.slice (some ⟨g, off, none⟩) bs.length sc, iv (at_ + 1 : Nat), iv (left - 1), iv 0] from HST.out.blk.set_ 2 _) ((Only.refl _ _).setCell (.inl (by simp)) _) (by omega)).only ((Only.refl _ _).alloc _).drew, ((((Only.refl _ _).setCell (.inl (by simp)) _).setCell (.inl (by simp)) _).alloc _).drew, ?_⟩
    have h := Blk.new ((w.setCell ⟨r, 1, none⟩ (.int .i64 (at_ + 1))).setCell ⟨r, 2, none⟩ (.int .i64 (left - 1))) 33 zeroV.toArray
    rw [show ((w.setCell ⟨r, 1, none⟩ (.int .i64 (at_ + 1))).setCell ⟨r, 2, none⟩ (.int .i64 (left - 1))).heap.size = w.heap.size by simp] at h
    exact h.drew)
  have HWB := Lib.hid hwB
  clear hwB
  by_cases hrm : left - 1 < 0
  · have hrz : left < 1 := by omega
    have HF := Lib.hid (HF0.out.trans (show _ = PR.bad (at_ : Int) 3 by unfold pval; rw [if_neg (by omega), if_pos (by omega)]; congr 1; omega))
    go_enter Try.func38, Try.ntmps38
    go_wp2
    refine Lex.wp_region_text (by kernel_rfl) (by kernel_rfl) ?_
    go_wp2
    refine Lex.sq_done (by rfl) ?_
    go_wp2_with fail
    rw [← HWA.out]
    have HOB := Lib.hid HA.out.2
    refine (fail2_ok HA.out.1.blk (at_ : Int) 3).mono ?_
    rintro e w8 ⟨rfl, ⟨left8, hb8⟩, ho8⟩
    have hz8 := HOB.out.2.only ho8 (by simp; omega)
    have HB8 := Lib.hid hb8
    have HO8 := Lib.hid (HOB.out.1.trans ho8)
    clear hb8 ho8
    go_wp2_with (refine wpList_store_blk rfl 33 (.tmp 4) (.tmp 78) rfl zeroV rfl rfl hz8 (by kernel_rfl) (by simp) (by simp [Value.oneCell']) ?_)
    intro w9 hB9 hO9
    have HB9 := Lib.hid (show Blk w9 w.heap.size 33 zeroV.toArray from hB9)
    have HO9 := Lib.hid hO9
    clear hB9 hO9 hz8
    go_wp2
    refine bodyPost_ret (results1 rfl (res_blk (cs := zeroV) Try.underlying33 (by kernel_rfl) rfl HB9.out)) rfl ?_
    rw [HF.out]
    exact ⟨rfl, ⟨left8, HB8.out.only HO9.out (by simp; omega)⟩, HO8.out.trans' HO9.out fun i hi => .inr (by simp at hi; omega)⟩
  have hrz : ¬ left < 1 := by omega
  have HF := Lib.hid (HF0.out.trans (show _ = PR.ok (.mk 1 0 0 ⟨#[]⟩ []) (at_ + 1) (left - 1) by unfold pval; rw [if_neg (by omega), if_neg (by omega)]; rfl))
  have HZ := Lib.hid HB.out.2.2
  have HP := Lib.hid HB.out.1
  have HO := Lib.hid HB.out.2.1
  go_enter Try.func38, Try.ntmps38
  go_wp2
  refine Lex.wp_region_text (by kernel_rfl) (by kernel_rfl) ?_
  go_wp2
  refine Lex.sq_done (by rfl) ?_
  have HZ0 := HZ
  rw [HWB.out] at HZ
  go_wp2_with (refine wpList_store_blk rfl 33 (.tmp 4) (.tmp 189) rfl [iv 1, iv 0, fv 0, .string ⟨#[]⟩, .slice none 0 0] rfl rfl HZ.out (by kernel_rfl) (by simp) (by simp [Value.oneCell']) ?_)
  intro w2 hB2 hO2
  try rw [← HWB.out] at hO2
  have HB2 := Lib.hid hB2
  have HO2 := Lib.hid hO2
  clear hB2 hO2
  go_wp2
  refine bodyPost_ret (results1 rfl (res_blk (cs := [iv 1, iv 0, fv 0, .string ⟨#[]⟩, .slice none 0 0]) Try.underlying33 (by kernel_rfl) rfl HB2.out)) rfl ?_
  rw [HF.out]
  exact ⟨[iv 1, iv 0, fv 0, .string ⟨#[]⟩, .slice none 0 0], [], rfl, VO.plain (by decide) (by decide) (by omega) (Nat.zero_le _), List.nodup_nil, (fun g hg => by cases hg), HGF.out _ _ _ (HP.out.far HO2.out (by simp; omega) (fun g hg hm => by have := (HG.out g hg).2; simp at hm; omega)), HO.out.trans' HO2.out (fun i hi => .inr (by simp at hi; omega))⟩
set_option maxRecDepth 100000 in
set_option maxHeartbeats 3200000 in
theorem rval_two (n : Nat) : ∀ (w : World) (F : Nat → Prop) (r : Nat) (bs : List Nat) (s : Value) (nest at_ : Nat) (left : Int), RG w F r bs s at_ left → 0 ≤ left → left ≤ 65536 → bs.length ≤ 2 ^ 40 → nest ≤ 8 → (at_ < bs.length → 2 * (bs.length - (at_ + 1)) + 2 ≤ n) → ∀ (hp : at_ < bs.length), bs[at_] = 2 →
    Calls Try.prog 38 #[.pointer (some ⟨r, 0, none⟩), iv nest] w (RValPost w F r bs s (rval n bs nest at_ left)) := by
  intro w F r bs s nest at_ left h h0 h1 hbl hn hfu
  have hFr := h.out
  have hst := h.strict
  have HBB := Lib.hid (show ∀ c ∈ bs, c < 256 by obtain ⟨_, _, _, _, _, hb, _⟩ := h.bytes; exact hb)
  have hrl := h.blk.lt
  have hle := h.le
  have hform : ∃ sa sc, s = .slice sa bs.length sc := by obtain ⟨a, cap, e, _⟩ := h.bytes; exact ⟨a, cap, e⟩
  obtain ⟨sa, sc, rfl⟩ := hform
  clear h
  obtain ⟨G, hG⟩ : ∃ G : Nat → Prop, G = fun g => F g ∧ g < w.heap.size := ⟨_, rfl⟩
  rw [← hG] at hst
  have HG := Lib.hid (show ∀ g, G g → F g ∧ g < w.heap.size by rw [hG]; exact fun _ h => h)
  have HGF := Lib.hid (show ∀ (w' : World) (q : Nat) (rm : Int), RG w' G r bs (.slice sa bs.length sc) q rm → RG w' F r bs (.slice sa bs.length sc) q rm from fun _ _ _ h => h.mono (fun g hg => (HG.out g hg).1) hFr)
  have H := Lib.hid hst
  clear hst hG
  obtain ⟨hc, hf, hlt⟩ := H.out.blk.facts
  have x0 := hc 0
  have x1 := hc 1
  have x2 := hc 2
  have x3 := hc 3
  have f1 := hf 1
  have f2 := hf 2
  simp at x0 x1 x2 x3
  clear hc hf
  intro hp hf
  have hpz : ((at_ : Int) == (bs.length : Int)) = false := by rw [beq_eq_false_iff_ne]; omega
  have hpl : (at_ : Int) < (bs.length : Int) := by omega
  obtain ⟨sa', sc', es, _, _, _, hcell⟩ := H.out.bytes
  injection es with e1 _ e3
  subst e1
  subst e3
  obtain ⟨g, off, rfl, hg, hgG, hcc⟩ := hcell (by omega)
  have y0 := hcc at_ hp
  have hgr : g ≠ r := fun e => H.out.out (e ▸ hgG)
  have HF0 := Lib.hid (show rval n bs nest at_ left = pval n bs bs[at_] nest (at_ + 1) left by unfold rval; rw [List.getElem?_eq_getElem hp])
  clear hcell hcc
  rw [hf] at HF0
  rw [hf] at y0
  obtain ⟨n, rfl⟩ : ∃ m, n = m + 1 := ⟨n - 1, by omega⟩
  have HST := Lib.hid (H.out.step hp)
  obtain ⟨wA, hwA⟩ : ∃ x : World, x = ((w.setCell ⟨r, 1, none⟩ (.int .i64 (at_ + 1))).alloc (.cells zeroV.toArray 33)).drew := ⟨_, rfl⟩
  have HA := Lib.hid (show RG wA G r bs (.slice (some ⟨g, off, none⟩) bs.length sc) (at_ + 1) left ∧ Only [r] w wA ∧ Blk wA w.heap.size 33 zeroV.toArray by
    rw [hwA]
    refine ⟨HST.out.only ((Only.refl _ _).alloc _).drew, (((Only.refl _ _).setCell (.inl (by simp)) _).alloc _).drew, ?_⟩
    have h := Blk.new (w.setCell ⟨r, 1, none⟩ (.int .i64 (at_ + 1))) 33 zeroV.toArray
    rw [show (w.setCell ⟨r, 1, none⟩ (.int .i64 (at_ + 1))).heap.size = w.heap.size by simp] at h
    exact h.drew)
  have HWA := Lib.hid hwA
  clear hwA
  obtain ⟨wB, hwB⟩ : ∃ x : World, x = (((w.setCell ⟨r, 1, none⟩ (.int .i64 (at_ + 1))).setCell ⟨r, 2, none⟩ (.int .i64 (left - 1))).alloc (.cells zeroV.toArray 33)).drew := ⟨_, rfl⟩
  have HB := Lib.hid (show RG wB G r bs (.slice (some ⟨g, off, none⟩) bs.length sc) (at_ + 1) (left - 1) ∧ Only [r] w wB ∧ Blk wB w.heap.size 33 zeroV.toArray by
    rw [hwB]
    refine ⟨(HST.out.put (show Blk ((w.setCell ⟨r, 1, none⟩ (.int .i64 (at_ + 1))).setCell ⟨r, 2, none⟩ (.int .i64 (left - 1))) r 67 #[.slice (some ⟨g, off, none⟩) bs.length sc, iv (at_ + 1 : Nat), iv (left - 1), iv 0] from HST.out.blk.set_ 2 _) ((Only.refl _ _).setCell (.inl (by simp)) _) (by omega)).only ((Only.refl _ _).alloc _).drew, ((((Only.refl _ _).setCell (.inl (by simp)) _).setCell (.inl (by simp)) _).alloc _).drew, ?_⟩
    have h := Blk.new ((w.setCell ⟨r, 1, none⟩ (.int .i64 (at_ + 1))).setCell ⟨r, 2, none⟩ (.int .i64 (left - 1))) 33 zeroV.toArray
    rw [show ((w.setCell ⟨r, 1, none⟩ (.int .i64 (at_ + 1))).setCell ⟨r, 2, none⟩ (.int .i64 (left - 1))).heap.size = w.heap.size by simp] at h
    exact h.drew)
  have HWB := Lib.hid hwB
  clear hwB
  by_cases hrm : left - 1 < 0
  · have hrz : left < 1 := by omega
    have HF := Lib.hid (HF0.out.trans (show _ = PR.bad (at_ : Int) 3 by unfold pval; rw [if_neg (by omega), if_pos (by omega)]; congr 1; omega))
    go_enter Try.func38, Try.ntmps38
    go_wp2
    refine Lex.wp_region_text (by kernel_rfl) (by kernel_rfl) ?_
    go_wp2
    refine Lex.sq_done (by rfl) ?_
    go_wp2_with fail
    rw [← HWA.out]
    have HOB := Lib.hid HA.out.2
    refine (fail2_ok HA.out.1.blk (at_ : Int) 3).mono ?_
    rintro e w8 ⟨rfl, ⟨left8, hb8⟩, ho8⟩
    have hz8 := HOB.out.2.only ho8 (by simp; omega)
    have HB8 := Lib.hid hb8
    have HO8 := Lib.hid (HOB.out.1.trans ho8)
    clear hb8 ho8
    go_wp2_with (refine wpList_store_blk rfl 33 (.tmp 4) (.tmp 78) rfl zeroV rfl rfl hz8 (by kernel_rfl) (by simp) (by simp [Value.oneCell']) ?_)
    intro w9 hB9 hO9
    have HB9 := Lib.hid (show Blk w9 w.heap.size 33 zeroV.toArray from hB9)
    have HO9 := Lib.hid hO9
    clear hB9 hO9 hz8
    go_wp2
    refine bodyPost_ret (results1 rfl (res_blk (cs := zeroV) Try.underlying33 (by kernel_rfl) rfl HB9.out)) rfl ?_
    rw [HF.out]
    exact ⟨rfl, ⟨left8, HB8.out.only HO9.out (by simp; omega)⟩, HO8.out.trans' HO9.out fun i hi => .inr (by simp at hi; omega)⟩
  have hrz : ¬ left < 1 := by omega
  have HF1 := Lib.hid (HF0.out.trans (show _ = (match bs[at_ + 1]? with | none => PR.bad bs.length 2 | some c => if 1 < c then .bad (at_ + 1 : Nat) 4 else .ok (.mk 2 c 0 ⟨#[]⟩ []) (at_ + 1 + 1) (left - 1)) by unfold pval; rw [if_neg (by omega), if_neg (by omega), if_neg (by omega), if_pos rfl]; rfl))
  have HZ := Lib.hid HB.out.2.2
  have HP := Lib.hid HB.out.1
  have HO := Lib.hid HB.out.2.1
  have hgB : g < wB.heap.size := Nat.lt_of_lt_of_le hg HO.out.size
  by_cases hk : at_ + 1 < bs.length
  · have hkz : ((at_ : Int) + 1 == (bs.length : Int)) = false := by rw [beq_eq_false_iff_ne]; omega
    have hkl : (at_ : Int) + 1 < (bs.length : Int) := by omega
    have hcb := HBB.out _ (List.getElem_mem hk)
    obtain ⟨sa', sc', es, _, _, _, hcell⟩ := HP.out.bytes
    injection es with e1 _ e3
    subst e1
    subst e3
    obtain ⟨g', off', e1, _, _, hcc⟩ := hcell (by omega)
    injection e1 with e1
    injection e1 with e1 e2
    subst e1
    subst e2
    have Y1 := Lib.hid (hcc (at_ + 1) hk)
    rw [List.getElem?_eq_getElem hk] at HF1
    clear hcell hcc
    generalize bs[at_ + 1] = c at *
    by_cases hc1 : 1 < c
    · have hc2 : (1 : Int) < (c : Int) := by omega
      have HF := Lib.hid (HF1.out.trans (if_pos hc1))
      go_enter Try.func38, Try.ntmps38
      go_wp2
      refine Lex.wp_region_text (by kernel_rfl) (by kernel_rfl) ?_
      go_wp2
      refine Lex.sq_done (by rfl) ?_
      go_wp2
      rw [← HWB.out]
      clear x0 x1 x2 x3 f1 f2 hlt y0
      obtain ⟨hc, hf, hlt⟩ := HP.out.blk.facts
      have x0 := hc 0
      have x1 := hc 1
      have x2 := hc 2
      have x3 := hc 3
      have f1 := hf 1
      have f2 := hf 2
      simp at x0 x1 x2 x3
      clear hc hf
      have y1 := Y1.out
      have y2 := y1
      rw [← Nat.add_assoc] at y2
      refine Lex.wp_region_text (by kernel_rfl) (by kernel_rfl) ?_
      go_wp2
      refine Lex.sq_done (by rfl) ?_
      go_wp2
      refine Lex.wp_region_text (by kernel_rfl) (by kernel_rfl) ?_
      go_wp2
      refine Lex.sq_done (by rfl) ?_
      go_wp2_with fail
      have HOB := Lib.hid (show Only [r] w wB.drew.drew ∧ Blk wB.drew.drew w.heap.size 33 zeroV.toArray from ⟨HO.out.drew.drew, HZ.out.drew.drew⟩)
      refine (fail2_ok HP.out.blk.drew.drew ((at_ + 1 : Nat) : Int) 4).mono ?_
      rintro e w8 ⟨rfl, ⟨left8, hb8⟩, ho8⟩
      have hz8 := HOB.out.2.only ho8 (by simp; omega)
      have HB8 := Lib.hid hb8
      have HO8 := Lib.hid (HOB.out.1.trans ho8)
      clear hb8 ho8
      go_wp2_with (refine wpList_store_blk rfl 33 (.tmp 4) (.tmp 121) rfl zeroV rfl rfl hz8 (by kernel_rfl) (by simp) (by simp [Value.oneCell']) ?_)
      intro w9 hB9 hO9
      have HB9 := Lib.hid (show Blk w9 w.heap.size 33 zeroV.toArray from hB9)
      have HO9 := Lib.hid hO9
      clear hB9 hO9 hz8
      go_wp2
      refine bodyPost_ret (results1 rfl (res_blk (cs := zeroV) Try.underlying33 (by kernel_rfl) rfl HB9.out)) rfl ?_
      rw [HF.out]
      exact ⟨rfl, ⟨left8, HB8.out.only HO9.out (by simp; omega)⟩, HO8.out.trans' HO9.out fun i hi => .inr (by simp at hi; omega)⟩
    · have hc2 : ¬ (1 : Int) < (c : Int) := by omega
      have HF := Lib.hid (HF1.out.trans (if_neg hc1))
      go_enter Try.func38, Try.ntmps38
      go_wp2
      refine Lex.wp_region_text (by kernel_rfl) (by kernel_rfl) ?_
      go_wp2
      refine Lex.sq_done (by rfl) ?_
      go_wp2
      rw [← HWB.out]
      clear x0 x1 x2 x3 f1 f2 hlt y0
      obtain ⟨hc, hf, hlt⟩ := HP.out.blk.facts
      have x0 := hc 0
      have x1 := hc 1
      have x2 := hc 2
      have x3 := hc 3
      have f1 := hf 1
      have f2 := hf 2
      simp at x0 x1 x2 x3
      clear hc hf
      have y1 := Y1.out
      have y2 := y1
      rw [← Nat.add_assoc] at y2
      refine Lex.wp_region_text (by kernel_rfl) (by kernel_rfl) ?_
      go_wp2
      refine Lex.sq_done (by rfl) ?_
      go_wp2
      refine Lex.wp_region_text (by kernel_rfl) (by kernel_rfl) ?_
      go_wp2
      refine Lex.sq_done (by rfl) ?_
      go_wp2
      have hst := HP.out.step hk
      rw [show ((at_ + 1 : Nat) : Int) + 1 = (at_ : Int) + 1 + 1 by omega] at hst
      obtain ⟨w3, hw3⟩ : ∃ x : World, x = (wB.setCell ⟨r, 1, none⟩ (.int .i64 ((at_ : Int) + 1 + 1))).drew.drew := ⟨_, rfl⟩
      have HP3 := Lib.hid (show RG w3 G r bs (.slice (some ⟨g, off, none⟩) bs.length sc) (at_ + 1 + 1) (left - 1) by rw [hw3]; exact hst.only (Only.refl _ _).drew.drew)
      have HO3 := Lib.hid (show Only [r] w w3 by rw [hw3]; exact (HO.out.setCell (.inl (by simp)) _).drew.drew)
      have HZ3 := Lib.hid (show Blk w3 w.heap.size 33 zeroV.toArray by rw [hw3]; exact (HZ.out.far (by simp; omega) _).drew.drew)
      have y3 := ((show Only [r] wB w3 by rw [hw3]; exact ((Only.refl _ _).setCell (.inl (by simp)) _).drew.drew).cell (p := ⟨g, off + (at_ + 1), none⟩) hgB (by simp; omega)).trans Y1.out
      rw [← hw3]
      clear hst hw3 x0 x1 x2 x3 f1 f2 hlt y1 y2 HP HO HZ
      obtain ⟨hc, hf, hlt⟩ := HP3.out.blk.facts
      have x0 := hc 0
      have x1 := hc 1
      have x2 := hc 2
      have x3 := hc 3
      have f1 := hf 1
      have f2 := hf 2
      simp at x0 x1 x2 x3
      clear hc hf
      have y4 := y3
      rw [← Nat.add_assoc] at y4
      have hz4 : Blk w3.drew w.heap.size 33 zeroV.toArray := HZ3.out.drew
      refine Lex.wp_region_text (by kernel_rfl) (by kernel_rfl) ?_
      go_wp2_with (refine wpList_store_blk rfl 33 (.tmp 4) (.tmp 142) rfl [iv 2, iv c, fv 0, .string ⟨#[]⟩, .slice none 0 0] rfl rfl hz4 (by kernel_rfl) (by simp) (by simp [Value.oneCell']) ?_)
      intro w4 hB2 hO2
      have HB2 := Lib.hid hB2
      have HO2 := Lib.hid (show Only [w.heap.size] w3 w4 from (Only.refl _ _).drew.trans hO2)
      clear hB2 hO2 hz4
      go_wp2
      refine Lex.sq_done (by rfl) ?_
      go_wp2
      refine bodyPost_ret (results1 rfl (res_blk (cs := [iv 2, iv c, fv 0, .string ⟨#[]⟩, .slice none 0 0]) Try.underlying33 (by kernel_rfl) rfl HB2.out)) rfl ?_
      rw [HF.out]
      exact ⟨[iv 2, iv c, fv 0, .string ⟨#[]⟩, .slice none 0 0], [], rfl, VO.plain (by decide) (wf_nat hcb) (by omega) (Nat.zero_le _), List.nodup_nil, (fun g hg => by cases hg), HGF.out _ _ _ (HP3.out.far HO2.out (by simp; omega) (fun g hg hm => by have := (HG.out g hg).2; simp at hm; omega)), HO3.out.trans' HO2.out (fun i hi => .inr (by simp at hi; omega))⟩
  · have hkz : ((at_ : Int) + 1 == (bs.length : Int)) = true := by rw [beq_iff_eq]; omega
    have HF := Lib.hid (HF1.out.trans (show _ = PR.bad (at_ + 1 : Nat) 2 by rw [List.getElem?_eq_none (by omega)]; rw [show bs.length = at_ + 1 by omega]))
    go_enter Try.func38, Try.ntmps38
    go_wp2
    refine Lex.wp_region_text (by kernel_rfl) (by kernel_rfl) ?_
    go_wp2
    refine Lex.sq_done (by rfl) ?_
    go_wp2
    rw [← HWB.out]
    clear x0 x1 x2 x3 f1 f2 hlt y0
    obtain ⟨hc, hf, hlt⟩ := HP.out.blk.facts
    have x0 := hc 0
    have x1 := hc 1
    have x2 := hc 2
    have x3 := hc 3
    have f1 := hf 1
    have f2 := hf 2
    simp at x0 x1 x2 x3
    clear hc hf
    refine Lex.wp_region_text (by kernel_rfl) (by kernel_rfl) ?_
    go_wp2
    refine Lex.sq_done (by rfl) ?_
    go_wp2_with fail
    have HOB := Lib.hid (show Only [r] w wB.drew ∧ Blk wB.drew w.heap.size 33 zeroV.toArray from ⟨HO.out.drew, HZ.out.drew⟩)
    refine (fail2_ok HP.out.blk.drew ((at_ + 1 : Nat) : Int) 2).mono ?_
    rintro e w8 ⟨rfl, ⟨left8, hb8⟩, ho8⟩
    have hz8 := HOB.out.2.only ho8 (by simp; omega)
    have HB8 := Lib.hid hb8
    have HO8 := Lib.hid (HOB.out.1.trans ho8)
    clear hb8 ho8
    go_wp2_with (refine wpList_store_blk rfl 33 (.tmp 4) (.tmp 104) rfl zeroV rfl rfl hz8 (by kernel_rfl) (by simp) (by simp [Value.oneCell']) ?_)
    intro w9 hB9 hO9
    have HB9 := Lib.hid (show Blk w9 w.heap.size 33 zeroV.toArray from hB9)
    have HO9 := Lib.hid hO9
    clear hB9 hO9 hz8
    go_wp2
    refine bodyPost_ret (results1 rfl (res_blk (cs := zeroV) Try.underlying33 (by kernel_rfl) rfl HB9.out)) rfl ?_
    rw [HF.out]
    exact ⟨rfl, ⟨left8, HB8.out.only HO9.out (by simp; omega)⟩, HO8.out.trans' HO9.out fun i hi => .inr (by simp at hi; omega)⟩
set_option maxRecDepth 100000 in
set_option maxHeartbeats 3200000 in
theorem rval_three (n : Nat) : ∀ (w : World) (F : Nat → Prop) (r : Nat) (bs : List Nat) (s : Value) (nest at_ : Nat) (left : Int), RG w F r bs s at_ left → 0 ≤ left → left ≤ 65536 → bs.length ≤ 2 ^ 40 → nest ≤ 8 → (at_ < bs.length → 2 * (bs.length - (at_ + 1)) + 2 ≤ n) → ∀ (hp : at_ < bs.length), bs[at_] = 3 →
    Calls Try.prog 38 #[.pointer (some ⟨r, 0, none⟩), iv nest] w (RValPost w F r bs s (rval n bs nest at_ left)) := by
  intro w F r bs s nest at_ left h h0 h1 hbl hn hfu
  have hFr := h.out
  have hst := h.strict
  have HBB := Lib.hid (show ∀ c ∈ bs, c < 256 by obtain ⟨_, _, _, _, _, hb, _⟩ := h.bytes; exact hb)
  have hrl := h.blk.lt
  have hle := h.le
  have hform : ∃ sa sc, s = .slice sa bs.length sc := by obtain ⟨a, cap, e, _⟩ := h.bytes; exact ⟨a, cap, e⟩
  obtain ⟨sa, sc, rfl⟩ := hform
  clear h
  obtain ⟨G, hG⟩ : ∃ G : Nat → Prop, G = fun g => F g ∧ g < w.heap.size := ⟨_, rfl⟩
  rw [← hG] at hst
  have HG := Lib.hid (show ∀ g, G g → F g ∧ g < w.heap.size by rw [hG]; exact fun _ h => h)
  have HGF := Lib.hid (show ∀ (w' : World) (q : Nat) (rm : Int), RG w' G r bs (.slice sa bs.length sc) q rm → RG w' F r bs (.slice sa bs.length sc) q rm from fun _ _ _ h => h.mono (fun g hg => (HG.out g hg).1) hFr)
  have H := Lib.hid hst
  clear hst hG
  obtain ⟨hc, hf, hlt⟩ := H.out.blk.facts
  have x0 := hc 0
  have x1 := hc 1
  have x2 := hc 2
  have x3 := hc 3
  have f1 := hf 1
  have f2 := hf 2
  simp at x0 x1 x2 x3
  clear hc hf
  intro hp hf
  have hpz : ((at_ : Int) == (bs.length : Int)) = false := by rw [beq_eq_false_iff_ne]; omega
  have hpl : (at_ : Int) < (bs.length : Int) := by omega
  obtain ⟨sa', sc', es, _, _, _, hcell⟩ := H.out.bytes
  injection es with e1 _ e3
  subst e1
  subst e3
  obtain ⟨g, off, rfl, hg, hgG, hcc⟩ := hcell (by omega)
  have y0 := hcc at_ hp
  have hgr : g ≠ r := fun e => H.out.out (e ▸ hgG)
  have HF0 := Lib.hid (show rval n bs nest at_ left = pval n bs bs[at_] nest (at_ + 1) left by unfold rval; rw [List.getElem?_eq_getElem hp])
  clear hcell hcc
  rw [hf] at HF0
  rw [hf] at y0
  obtain ⟨n, rfl⟩ : ∃ m, n = m + 1 := ⟨n - 1, by omega⟩
  have HST := Lib.hid (H.out.step hp)
  obtain ⟨wA, hwA⟩ : ∃ x : World, x = ((w.setCell ⟨r, 1, none⟩ (.int .i64 (at_ + 1))).alloc (.cells zeroV.toArray 33)).drew := ⟨_, rfl⟩
  have HA := Lib.hid (show RG wA G r bs (.slice (some ⟨g, off, none⟩) bs.length sc) (at_ + 1) left ∧ Only [r] w wA ∧ Blk wA w.heap.size 33 zeroV.toArray by
    rw [hwA]
    refine ⟨HST.out.only ((Only.refl _ _).alloc _).drew, (((Only.refl _ _).setCell (.inl (by simp)) _).alloc _).drew, ?_⟩
    have h := Blk.new (w.setCell ⟨r, 1, none⟩ (.int .i64 (at_ + 1))) 33 zeroV.toArray
    rw [show (w.setCell ⟨r, 1, none⟩ (.int .i64 (at_ + 1))).heap.size = w.heap.size by simp] at h
    exact h.drew)
  have HWA := Lib.hid hwA
  clear hwA
  obtain ⟨wB, hwB⟩ : ∃ x : World, x = (((w.setCell ⟨r, 1, none⟩ (.int .i64 (at_ + 1))).setCell ⟨r, 2, none⟩ (.int .i64 (left - 1))).alloc (.cells zeroV.toArray 33)).drew := ⟨_, rfl⟩
  have HB := Lib.hid (show RG wB G r bs (.slice (some ⟨g, off, none⟩) bs.length sc) (at_ + 1) (left - 1) ∧ Only [r] w wB ∧ Blk wB w.heap.size 33 zeroV.toArray by
    rw [hwB]
    refine ⟨(HST.out.put (show Blk ((w.setCell ⟨r, 1, none⟩ (.int .i64 (at_ + 1))).setCell ⟨r, 2, none⟩ (.int .i64 (left - 1))) r 67 #[.slice (some ⟨g, off, none⟩) bs.length sc, iv (at_ + 1 : Nat), iv (left - 1), iv 0] from HST.out.blk.set_ 2 _) ((Only.refl _ _).setCell (.inl (by simp)) _) (by omega)).only ((Only.refl _ _).alloc _).drew, ((((Only.refl _ _).setCell (.inl (by simp)) _).setCell (.inl (by simp)) _).alloc _).drew, ?_⟩
    have h := Blk.new ((w.setCell ⟨r, 1, none⟩ (.int .i64 (at_ + 1))).setCell ⟨r, 2, none⟩ (.int .i64 (left - 1))) 33 zeroV.toArray
    rw [show ((w.setCell ⟨r, 1, none⟩ (.int .i64 (at_ + 1))).setCell ⟨r, 2, none⟩ (.int .i64 (left - 1))).heap.size = w.heap.size by simp] at h
    exact h.drew)
  have HWB := Lib.hid hwB
  clear hwB
  by_cases hrm : left - 1 < 0
  · have hrz : left < 1 := by omega
    have HF := Lib.hid (HF0.out.trans (show _ = PR.bad (at_ : Int) 3 by unfold pval; rw [if_neg (by omega), if_pos (by omega)]; congr 1; omega))
    go_enter Try.func38, Try.ntmps38
    go_wp2
    refine Lex.wp_region_text (by kernel_rfl) (by kernel_rfl) ?_
    go_wp2
    refine Lex.sq_done (by rfl) ?_
    go_wp2_with fail
    rw [← HWA.out]
    have HOB := Lib.hid HA.out.2
    refine (fail2_ok HA.out.1.blk (at_ : Int) 3).mono ?_
    rintro e w8 ⟨rfl, ⟨left8, hb8⟩, ho8⟩
    have hz8 := HOB.out.2.only ho8 (by simp; omega)
    have HB8 := Lib.hid hb8
    have HO8 := Lib.hid (HOB.out.1.trans ho8)
    clear hb8 ho8
    go_wp2_with (refine wpList_store_blk rfl 33 (.tmp 4) (.tmp 78) rfl zeroV rfl rfl hz8 (by kernel_rfl) (by simp) (by simp [Value.oneCell']) ?_)
    intro w9 hB9 hO9
    have HB9 := Lib.hid (show Blk w9 w.heap.size 33 zeroV.toArray from hB9)
    have HO9 := Lib.hid hO9
    clear hB9 hO9 hz8
    go_wp2
    refine bodyPost_ret (results1 rfl (res_blk (cs := zeroV) Try.underlying33 (by kernel_rfl) rfl HB9.out)) rfl ?_
    rw [HF.out]
    exact ⟨rfl, ⟨left8, HB8.out.only HO9.out (by simp; omega)⟩, HO8.out.trans' HO9.out fun i hi => .inr (by simp at hi; omega)⟩
  have hrz : ¬ left < 1 := by omega
  have HE := Lib.hid (eight2_ok HB.out.1 hbl)
  go_enter Try.func38, Try.ntmps38
  go_wp2
  refine Lex.wp_region_text (by kernel_rfl) (by kernel_rfl) ?_
  go_wp2
  refine Lex.sq_done (by rfl) ?_
  go_wp2_with fail
  rw [← HWB.out]
  refine HE.out.mono ?_
  clear HE
  intro e w3 hn3
  unfold Eight2 at hn3
  by_cases hk : at_ + 1 + 8 ≤ bs.length
  case neg =>
    rw [if_neg hk] at hn3
    obtain ⟨rfl, ⟨left3, hb3⟩, ho3⟩ := hn3
    have HF := Lib.hid (HF0.out.trans (show _ = PR.bad bs.length 2 by unfold pval; rw [if_neg (by omega), if_neg (by omega)]; simp only [if_neg hk]; simp))
    have hz3 := HB.out.2.2.only ho3 (by simp; omega)
    have HB3 := Lib.hid hb3
    have HO3 := Lib.hid (HB.out.2.1.trans ho3)
    clear hb3 ho3
    go_wp2_with (refine wpList_store_blk rfl 33 (.tmp 4) (.tmp 152) rfl zeroV rfl rfl hz3 (by kernel_rfl) (by simp) (by simp [Value.oneCell']) ?_)
    intro w9 hB9 hO9
    have HB9 := Lib.hid (show Blk w9 w.heap.size 33 zeroV.toArray from hB9)
    have HO9 := Lib.hid hO9
    clear hB9 hO9 hz3
    go_wp2
    refine bodyPost_ret (results1 rfl (res_blk (cs := zeroV) Try.underlying33 (by kernel_rfl) rfl HB9.out)) rfl ?_
    rw [HF.out]
    exact ⟨rfl, ⟨left3, HB3.out.only HO9.out (by simp; omega)⟩, HO3.out.trans' HO9.out fun i hi => .inr (by simp at hi; omega)⟩
  rw [if_pos hk] at hn3
  obtain ⟨rfl, hps, ho⟩ := hn3
  have HP := Lib.hid hps
  have HO := Lib.hid (HB.out.2.1.trans ho)
  have HZ := Lib.hid (HB.out.2.2.only ho (by simp; omega))
  have hm := num8_lt (at_ := at_ + 1) HBB.out
  clear hps ho
  have HF := Lib.hid (HF0.out.trans (show _ = PR.ok (.mk 3 (num ((bs.drop (at_ + 1)).take 8) - 9223372036854775808) 0 ⟨#[]⟩ []) (at_ + 1 + 8) (left - 1) by unfold pval; rw [if_neg (by omega), if_neg (by omega), if_neg (by omega), if_neg (by omega), if_pos rfl, if_pos hk]))
  generalize num ((bs.drop (at_ + 1)).take 8) = m at *
  have hx := bits_top hm
  go_wp2_with (refine wpList_store_blk rfl 33 (.tmp 4) (.tmp 157) rfl [iv 3, _, fv 0, .string ⟨#[]⟩, .slice none 0 0] rfl rfl HZ.out (by kernel_rfl) (by simp) (by simp [Value.oneCell']) ?_)
  intro w4 hB2 hO2
  have hwr : wrap64 (((m : Int) + 9223372036854775808) % 18446744073709551616) = (m : Int) - 9223372036854775808 := by
    unfold wrap64
    omega
  rw [hwr] at hB2 ⊢
  have HB2 := Lib.hid hB2
  have HO2 := Lib.hid hO2
  have HWF := Lib.hid (show (Lit.int .i64 ((m : Int) - 9223372036854775808)).wf = true by rw [← hwr]; exact wrap64_wf _)
  clear hB2 hO2 hwr hx
  go_wp2
  refine bodyPost_ret (results1 rfl (res_blk (cs := [iv 3, iv ((m : Int) - 9223372036854775808), fv 0, .string ⟨#[]⟩, .slice none 0 0]) Try.underlying33 (by kernel_rfl) rfl HB2.out)) rfl ?_
  rw [HF.out]
  exact ⟨[iv 3, iv ((m : Int) - 9223372036854775808), fv 0, .string ⟨#[]⟩, .slice none 0 0], [], rfl, VO.plain (by decide) HWF.out (by omega) (Nat.zero_le _), List.nodup_nil, (fun g hg => by cases hg), HGF.out _ _ _ (HP.out.far HO2.out (by simp; omega) (fun g hg hm => by have := (HG.out g hg).2; simp at hm; omega)), HO.out.trans' HO2.out (fun i hi => .inr (by simp at hi; omega))⟩
set_option maxRecDepth 100000 in
set_option maxHeartbeats 3200000 in
theorem rval_four (n : Nat) : ∀ (w : World) (F : Nat → Prop) (r : Nat) (bs : List Nat) (s : Value) (nest at_ : Nat) (left : Int), RG w F r bs s at_ left → 0 ≤ left → left ≤ 65536 → bs.length ≤ 2 ^ 40 → nest ≤ 8 → (at_ < bs.length → 2 * (bs.length - (at_ + 1)) + 2 ≤ n) → ∀ (hp : at_ < bs.length), bs[at_] = 4 →
    Calls Try.prog 38 #[.pointer (some ⟨r, 0, none⟩), iv nest] w (RValPost w F r bs s (rval n bs nest at_ left)) := by
  intro w F r bs s nest at_ left h h0 h1 hbl hn hfu
  have hFr := h.out
  have hst := h.strict
  have HBB := Lib.hid (show ∀ c ∈ bs, c < 256 by obtain ⟨_, _, _, _, _, hb, _⟩ := h.bytes; exact hb)
  have hrl := h.blk.lt
  have hle := h.le
  have hform : ∃ sa sc, s = .slice sa bs.length sc := by obtain ⟨a, cap, e, _⟩ := h.bytes; exact ⟨a, cap, e⟩
  obtain ⟨sa, sc, rfl⟩ := hform
  clear h
  obtain ⟨G, hG⟩ : ∃ G : Nat → Prop, G = fun g => F g ∧ g < w.heap.size := ⟨_, rfl⟩
  rw [← hG] at hst
  have HG := Lib.hid (show ∀ g, G g → F g ∧ g < w.heap.size by rw [hG]; exact fun _ h => h)
  have HGF := Lib.hid (show ∀ (w' : World) (q : Nat) (rm : Int), RG w' G r bs (.slice sa bs.length sc) q rm → RG w' F r bs (.slice sa bs.length sc) q rm from fun _ _ _ h => h.mono (fun g hg => (HG.out g hg).1) hFr)
  have H := Lib.hid hst
  clear hst hG
  obtain ⟨hc, hf, hlt⟩ := H.out.blk.facts
  have x0 := hc 0
  have x1 := hc 1
  have x2 := hc 2
  have x3 := hc 3
  have f1 := hf 1
  have f2 := hf 2
  simp at x0 x1 x2 x3
  clear hc hf
  intro hp hf
  have hpz : ((at_ : Int) == (bs.length : Int)) = false := by rw [beq_eq_false_iff_ne]; omega
  have hpl : (at_ : Int) < (bs.length : Int) := by omega
  obtain ⟨sa', sc', es, _, _, _, hcell⟩ := H.out.bytes
  injection es with e1 _ e3
  subst e1
  subst e3
  obtain ⟨g, off, rfl, hg, hgG, hcc⟩ := hcell (by omega)
  have y0 := hcc at_ hp
  have hgr : g ≠ r := fun e => H.out.out (e ▸ hgG)
  have HF0 := Lib.hid (show rval n bs nest at_ left = pval n bs bs[at_] nest (at_ + 1) left by unfold rval; rw [List.getElem?_eq_getElem hp])
  clear hcell hcc
  rw [hf] at HF0
  rw [hf] at y0
  obtain ⟨n, rfl⟩ : ∃ m, n = m + 1 := ⟨n - 1, by omega⟩
  have HST := Lib.hid (H.out.step hp)
  obtain ⟨wA, hwA⟩ : ∃ x : World, x = ((w.setCell ⟨r, 1, none⟩ (.int .i64 (at_ + 1))).alloc (.cells zeroV.toArray 33)).drew := ⟨_, rfl⟩
  have HA := Lib.hid (show RG wA G r bs (.slice (some ⟨g, off, none⟩) bs.length sc) (at_ + 1) left ∧ Only [r] w wA ∧ Blk wA w.heap.size 33 zeroV.toArray by
    rw [hwA]
    refine ⟨HST.out.only ((Only.refl _ _).alloc _).drew, (((Only.refl _ _).setCell (.inl (by simp)) _).alloc _).drew, ?_⟩
    have h := Blk.new (w.setCell ⟨r, 1, none⟩ (.int .i64 (at_ + 1))) 33 zeroV.toArray
    rw [show (w.setCell ⟨r, 1, none⟩ (.int .i64 (at_ + 1))).heap.size = w.heap.size by simp] at h
    exact h.drew)
  have HWA := Lib.hid hwA
  clear hwA
  obtain ⟨wB, hwB⟩ : ∃ x : World, x = (((w.setCell ⟨r, 1, none⟩ (.int .i64 (at_ + 1))).setCell ⟨r, 2, none⟩ (.int .i64 (left - 1))).alloc (.cells zeroV.toArray 33)).drew := ⟨_, rfl⟩
  have HB := Lib.hid (show RG wB G r bs (.slice (some ⟨g, off, none⟩) bs.length sc) (at_ + 1) (left - 1) ∧ Only [r] w wB ∧ Blk wB w.heap.size 33 zeroV.toArray by
    rw [hwB]
    refine ⟨(HST.out.put (show Blk ((w.setCell ⟨r, 1, none⟩ (.int .i64 (at_ + 1))).setCell ⟨r, 2, none⟩ (.int .i64 (left - 1))) r 67 #[.slice (some ⟨g, off, none⟩) bs.length sc, iv (at_ + 1 : Nat), iv (left - 1), iv 0] from HST.out.blk.set_ 2 _) ((Only.refl _ _).setCell (.inl (by simp)) _) (by omega)).only ((Only.refl _ _).alloc _).drew, ((((Only.refl _ _).setCell (.inl (by simp)) _).setCell (.inl (by simp)) _).alloc _).drew, ?_⟩
    have h := Blk.new ((w.setCell ⟨r, 1, none⟩ (.int .i64 (at_ + 1))).setCell ⟨r, 2, none⟩ (.int .i64 (left - 1))) 33 zeroV.toArray
    rw [show ((w.setCell ⟨r, 1, none⟩ (.int .i64 (at_ + 1))).setCell ⟨r, 2, none⟩ (.int .i64 (left - 1))).heap.size = w.heap.size by simp] at h
    exact h.drew)
  have HWB := Lib.hid hwB
  clear hwB
  by_cases hrm : left - 1 < 0
  · have hrz : left < 1 := by omega
    have HF := Lib.hid (HF0.out.trans (show _ = PR.bad (at_ : Int) 3 by unfold pval; rw [if_neg (by omega), if_pos (by omega)]; congr 1; omega))
    go_enter Try.func38, Try.ntmps38
    go_wp2
    refine Lex.wp_region_text (by kernel_rfl) (by kernel_rfl) ?_
    go_wp2
    refine Lex.sq_done (by rfl) ?_
    go_wp2_with fail
    rw [← HWA.out]
    have HOB := Lib.hid HA.out.2
    refine (fail2_ok HA.out.1.blk (at_ : Int) 3).mono ?_
    rintro e w8 ⟨rfl, ⟨left8, hb8⟩, ho8⟩
    have hz8 := HOB.out.2.only ho8 (by simp; omega)
    have HB8 := Lib.hid hb8
    have HO8 := Lib.hid (HOB.out.1.trans ho8)
    clear hb8 ho8
    go_wp2_with (refine wpList_store_blk rfl 33 (.tmp 4) (.tmp 78) rfl zeroV rfl rfl hz8 (by kernel_rfl) (by simp) (by simp [Value.oneCell']) ?_)
    intro w9 hB9 hO9
    have HB9 := Lib.hid (show Blk w9 w.heap.size 33 zeroV.toArray from hB9)
    have HO9 := Lib.hid hO9
    clear hB9 hO9 hz8
    go_wp2
    refine bodyPost_ret (results1 rfl (res_blk (cs := zeroV) Try.underlying33 (by kernel_rfl) rfl HB9.out)) rfl ?_
    rw [HF.out]
    exact ⟨rfl, ⟨left8, HB8.out.only HO9.out (by simp; omega)⟩, HO8.out.trans' HO9.out fun i hi => .inr (by simp at hi; omega)⟩
  have hrz : ¬ left < 1 := by omega
  have HE := Lib.hid (eight2_ok HB.out.1 hbl)
  go_enter Try.func38, Try.ntmps38
  go_wp2
  refine Lex.wp_region_text (by kernel_rfl) (by kernel_rfl) ?_
  go_wp2
  refine Lex.sq_done (by rfl) ?_
  go_wp2_with fail
  rw [← HWB.out]
  refine HE.out.mono ?_
  clear HE
  intro e w3 hn3
  unfold Eight2 at hn3
  by_cases hk : at_ + 1 + 8 ≤ bs.length
  case neg =>
    rw [if_neg hk] at hn3
    obtain ⟨rfl, ⟨left3, hb3⟩, ho3⟩ := hn3
    have HF := Lib.hid (HF0.out.trans (show _ = PR.bad bs.length 2 by unfold pval; rw [if_neg (by omega), if_neg (by omega)]; simp only [if_neg hk]; simp))
    have hz3 := HB.out.2.2.only ho3 (by simp; omega)
    have HB3 := Lib.hid hb3
    have HO3 := Lib.hid (HB.out.2.1.trans ho3)
    clear hb3 ho3
    go_wp2_with (refine wpList_store_blk rfl 33 (.tmp 4) (.tmp 167) rfl zeroV rfl rfl hz3 (by kernel_rfl) (by simp) (by simp [Value.oneCell']) ?_)
    intro w9 hB9 hO9
    have HB9 := Lib.hid (show Blk w9 w.heap.size 33 zeroV.toArray from hB9)
    have HO9 := Lib.hid hO9
    clear hB9 hO9 hz3
    go_wp2
    refine bodyPost_ret (results1 rfl (res_blk (cs := zeroV) Try.underlying33 (by kernel_rfl) rfl HB9.out)) rfl ?_
    rw [HF.out]
    exact ⟨rfl, ⟨left3, HB3.out.only HO9.out (by simp; omega)⟩, HO3.out.trans' HO9.out fun i hi => .inr (by simp at hi; omega)⟩
  rw [if_pos hk] at hn3
  obtain ⟨rfl, hps, ho⟩ := hn3
  have HP := Lib.hid hps
  have HO := Lib.hid (HB.out.2.1.trans ho)
  have HZ := Lib.hid (HB.out.2.2.only ho (by simp; omega))
  have hm := num8_lt (at_ := at_ + 1) HBB.out
  clear hps ho
  have HF1 := Lib.hid (HF0.out.trans (show _ = (match unkeyR (num ((bs.drop (at_ + 1)).take 8)) with | none => PR.bad (at_ + 1 : Nat) 4 | some b => .ok (.mk 4 0 b ⟨#[]⟩ []) (at_ + 1 + 8) (left - 1)) by unfold pval; rw [if_neg (by omega), if_neg (by omega), if_neg (by omega), if_neg (by omega), if_neg (by omega), if_pos rfl, if_pos hk]; first | rfl | (split <;> rfl)))
  generalize num ((bs.drop (at_ + 1)).take 8) = m at *
  go_wp2_with fail
  refine (unkey2_ok _ m hm).mono ?_
  rintro e w4 ⟨rfl, rfl⟩
  cases hu : unkeyR m with
  | none =>
    rw [hu] at HF1
    have HF := HF1
    have HOB := Lib.hid (And.intro HO.out HZ.out)
    clear hu
    unfold unkeyV
    go_wp2_with fail
    refine (fail2_ok HP.out.blk ((at_ + 1 : Nat) : Int) 4).mono ?_
    rintro e w8 ⟨rfl, ⟨left8, hb8⟩, ho8⟩
    have hz8 := HOB.out.2.only ho8 (by simp; omega)
    have HB8 := Lib.hid hb8
    have HO8 := Lib.hid (HOB.out.1.trans ho8)
    clear hb8 ho8
    go_wp2_with (refine wpList_store_blk rfl 33 (.tmp 4) (.tmp 178) rfl zeroV rfl rfl hz8 (by kernel_rfl) (by simp) (by simp [Value.oneCell']) ?_)
    intro w9 hB9 hO9
    have HB9 := Lib.hid (show Blk w9 w.heap.size 33 zeroV.toArray from hB9)
    have HO9 := Lib.hid hO9
    clear hB9 hO9 hz8
    go_wp2
    refine bodyPost_ret (results1 rfl (res_blk (cs := zeroV) Try.underlying33 (by kernel_rfl) rfl HB9.out)) rfl ?_
    rw [HF.out]
    exact ⟨rfl, ⟨left8, HB8.out.only HO9.out (by simp; omega)⟩, HO8.out.trans' HO9.out fun i hi => .inr (by simp at hi; omega)⟩
  | some b =>
    rw [hu] at HF1
    have hbl2 := unkey_lt hm hu
    have HF := HF1
    clear hu
    unfold unkeyV
    go_wp2_with (refine wpList_store_blk rfl 33 (.tmp 4) (.tmp 181) rfl [iv 4, iv 0, fv b, .string ⟨#[]⟩, .slice none 0 0] rfl rfl HZ.out (by kernel_rfl) (by simp) (by simp [Value.oneCell']) ?_)
    intro w2 hB2 hO2
    try rw [← HWB.out] at hO2
    have HB2 := Lib.hid hB2
    have HO2 := Lib.hid hO2
    clear hB2 hO2
    go_wp2
    refine bodyPost_ret (results1 rfl (res_blk (cs := [iv 4, iv 0, fv b, .string ⟨#[]⟩, .slice none 0 0]) Try.underlying33 (by kernel_rfl) rfl HB2.out)) rfl ?_
    rw [HF.out]
    exact ⟨[iv 4, iv 0, fv b, .string ⟨#[]⟩, .slice none 0 0], [], rfl, VO.plain (by decide) (by decide) hbl2 (Nat.zero_le _), List.nodup_nil, (fun g hg => by cases hg), HGF.out _ _ _ (HP.out.far HO2.out (by simp; omega) (fun g hg hm => by have := (HG.out g hg).2; simp at hm; omega)), HO.out.trans' HO2.out (fun i hi => .inr (by simp at hi; omega))⟩
set_option maxRecDepth 100000 in
set_option maxHeartbeats 3200000 in
theorem rval_five (n : Nat) : ∀ (w : World) (F : Nat → Prop) (r : Nat) (bs : List Nat) (s : Value) (nest at_ : Nat) (left : Int), RG w F r bs s at_ left → 0 ≤ left → left ≤ 65536 → bs.length ≤ 2 ^ 40 → nest ≤ 8 → (at_ < bs.length → 2 * (bs.length - (at_ + 1)) + 2 ≤ n) → ∀ (hp : at_ < bs.length), bs[at_] = 5 →
    Calls Try.prog 38 #[.pointer (some ⟨r, 0, none⟩), iv nest] w (RValPost w F r bs s (rval n bs nest at_ left)) := by
  intro w F r bs s nest at_ left h h0 h1 hbl hn hfu
  have hFr := h.out
  have hst := h.strict
  have HBB := Lib.hid (show ∀ c ∈ bs, c < 256 by obtain ⟨_, _, _, _, _, hb, _⟩ := h.bytes; exact hb)
  have hrl := h.blk.lt
  have hle := h.le
  have hform : ∃ sa sc, s = .slice sa bs.length sc := by obtain ⟨a, cap, e, _⟩ := h.bytes; exact ⟨a, cap, e⟩
  obtain ⟨sa, sc, rfl⟩ := hform
  clear h
  obtain ⟨G, hG⟩ : ∃ G : Nat → Prop, G = fun g => F g ∧ g < w.heap.size := ⟨_, rfl⟩
  rw [← hG] at hst
  have HG := Lib.hid (show ∀ g, G g → F g ∧ g < w.heap.size by rw [hG]; exact fun _ h => h)
  have HGF := Lib.hid (show ∀ (w' : World) (q : Nat) (rm : Int), RG w' G r bs (.slice sa bs.length sc) q rm → RG w' F r bs (.slice sa bs.length sc) q rm from fun _ _ _ h => h.mono (fun g hg => (HG.out g hg).1) hFr)
  have H := Lib.hid hst
  clear hst hG
  obtain ⟨hc, hf, hlt⟩ := H.out.blk.facts
  have x0 := hc 0
  have x1 := hc 1
  have x2 := hc 2
  have x3 := hc 3
  have f1 := hf 1
  have f2 := hf 2
  simp at x0 x1 x2 x3
  clear hc hf
  intro hp hf
  have hpz : ((at_ : Int) == (bs.length : Int)) = false := by rw [beq_eq_false_iff_ne]; omega
  have hpl : (at_ : Int) < (bs.length : Int) := by omega
  obtain ⟨sa', sc', es, _, _, _, hcell⟩ := H.out.bytes
  injection es with e1 _ e3
  subst e1
  subst e3
  obtain ⟨g, off, rfl, hg, hgG, hcc⟩ := hcell (by omega)
  have y0 := hcc at_ hp
  have hgr : g ≠ r := fun e => H.out.out (e ▸ hgG)
  have HF0 := Lib.hid (show rval n bs nest at_ left = pval n bs bs[at_] nest (at_ + 1) left by unfold rval; rw [List.getElem?_eq_getElem hp])
  clear hcell hcc
  rw [hf] at HF0
  rw [hf] at y0
  obtain ⟨n, rfl⟩ : ∃ m, n = m + 1 := ⟨n - 1, by omega⟩
  have HST := Lib.hid (H.out.step hp)
  obtain ⟨wA, hwA⟩ : ∃ x : World, x = ((w.setCell ⟨r, 1, none⟩ (.int .i64 (at_ + 1))).alloc (.cells zeroV.toArray 33)).drew := ⟨_, rfl⟩
  have HA := Lib.hid (show RG wA G r bs (.slice (some ⟨g, off, none⟩) bs.length sc) (at_ + 1) left ∧ Only [r] w wA ∧ Blk wA w.heap.size 33 zeroV.toArray by
    rw [hwA]
    refine ⟨HST.out.only ((Only.refl _ _).alloc _).drew, (((Only.refl _ _).setCell (.inl (by simp)) _).alloc _).drew, ?_⟩
    have h := Blk.new (w.setCell ⟨r, 1, none⟩ (.int .i64 (at_ + 1))) 33 zeroV.toArray
    rw [show (w.setCell ⟨r, 1, none⟩ (.int .i64 (at_ + 1))).heap.size = w.heap.size by simp] at h
    exact h.drew)
  have HWA := Lib.hid hwA
  clear hwA
  obtain ⟨wB, hwB⟩ : ∃ x : World, x = (((w.setCell ⟨r, 1, none⟩ (.int .i64 (at_ + 1))).setCell ⟨r, 2, none⟩ (.int .i64 (left - 1))).alloc (.cells zeroV.toArray 33)).drew := ⟨_, rfl⟩
  have HB := Lib.hid (show RG wB G r bs (.slice (some ⟨g, off, none⟩) bs.length sc) (at_ + 1) (left - 1) ∧ Only [r] w wB ∧ Blk wB w.heap.size 33 zeroV.toArray by
    rw [hwB]
    refine ⟨(HST.out.put (show Blk ((w.setCell ⟨r, 1, none⟩ (.int .i64 (at_ + 1))).setCell ⟨r, 2, none⟩ (.int .i64 (left - 1))) r 67 #[.slice (some ⟨g, off, none⟩) bs.length sc, iv (at_ + 1 : Nat), iv (left - 1), iv 0] from HST.out.blk.set_ 2 _) ((Only.refl _ _).setCell (.inl (by simp)) _) (by omega)).only ((Only.refl _ _).alloc _).drew, ((((Only.refl _ _).setCell (.inl (by simp)) _).setCell (.inl (by simp)) _).alloc _).drew, ?_⟩
    have h := Blk.new ((w.setCell ⟨r, 1, none⟩ (.int .i64 (at_ + 1))).setCell ⟨r, 2, none⟩ (.int .i64 (left - 1))) 33 zeroV.toArray
    rw [show ((w.setCell ⟨r, 1, none⟩ (.int .i64 (at_ + 1))).setCell ⟨r, 2, none⟩ (.int .i64 (left - 1))).heap.size = w.heap.size by simp] at h
    exact h.drew)
  have HWB := Lib.hid hwB
  clear hwB
  have HC := Lib.hid (text2_ok HA.out.1 (at_ : Int) h0 h1 hbl)
  go_enter Try.func38, Try.ntmps38
  go_wp2
  refine Lex.wp_region_text (by kernel_rfl) (by kernel_rfl) ?_
  go_wp2
  refine Lex.sq_done (by rfl) ?_
  go_wp2_with fail
  rw [← HWA.out]
  refine HC.out.mono ?_
  clear HC
  intro e w3 hc
  have HF1 := Lib.hid (HF0.out.trans (show _ = (match ptext (bs.drop (at_ + 1)) (at_ + 1) [] with | .short => PR.bad bs.length 2 | .form q => .bad q 4 | .done t q => if left - (1 + (t.length : Int)) < 0 then .bad ((at_ + 1 : Nat) - 1) 3 else .ok (.mk 5 0 0 (strB t) []) q (left - (1 + (t.length : Int)))) by unfold pval; rw [if_neg (by omega), if_neg (by omega), if_neg (by omega), if_neg (by omega), if_neg (by omega), if_neg (by omega), if_pos rfl]; first | rfl | (split <;> rfl)))
  unfold Text2 at hc
  cases hpt : ptext (bs.drop (at_ + 1)) (at_ + 1) [] with
  | short =>
    rw [hpt] at hc HF1
    obtain ⟨rfl, ⟨left3, hb3⟩, ho3⟩ := hc
    have HF := HF1
    clear hpt
    have hz3 := HA.out.2.2.only ho3 (by simp; omega)
    have HB3 := Lib.hid hb3
    have HO3 := Lib.hid (HA.out.2.1.trans ho3)
    clear hb3 ho3
    go_wp2_with (refine wpList_store_blk rfl 33 (.tmp 4) (.tmp 70) rfl zeroV rfl rfl hz3 (by kernel_rfl) (by simp) (by simp [Value.oneCell']) ?_)
    intro w9 hB9 hO9
    have HB9 := Lib.hid (show Blk w9 w.heap.size 33 zeroV.toArray from hB9)
    have HO9 := Lib.hid hO9
    clear hB9 hO9 hz3
    go_wp2
    refine bodyPost_ret (results1 rfl (res_blk (cs := zeroV) Try.underlying33 (by kernel_rfl) rfl HB9.out)) rfl ?_
    rw [HF.out]
    exact ⟨rfl, ⟨left3, HB3.out.only HO9.out (by simp; omega)⟩, HO3.out.trans' HO9.out fun i hi => .inr (by simp at hi; omega)⟩
  | form q =>
    rw [hpt] at hc HF1
    obtain ⟨rfl, ⟨left3, hb3⟩, ho3⟩ := hc
    have HF := HF1
    clear hpt
    have hz3 := HA.out.2.2.only ho3 (by simp; omega)
    have HB3 := Lib.hid hb3
    have HO3 := Lib.hid (HA.out.2.1.trans ho3)
    clear hb3 ho3
    go_wp2_with (refine wpList_store_blk rfl 33 (.tmp 4) (.tmp 70) rfl zeroV rfl rfl hz3 (by kernel_rfl) (by simp) (by simp [Value.oneCell']) ?_)
    intro w9 hB9 hO9
    have HB9 := Lib.hid (show Blk w9 w.heap.size 33 zeroV.toArray from hB9)
    have HO9 := Lib.hid hO9
    clear hB9 hO9 hz3
    go_wp2
    refine bodyPost_ret (results1 rfl (res_blk (cs := zeroV) Try.underlying33 (by kernel_rfl) rfl HB9.out)) rfl ?_
    rw [HF.out]
    exact ⟨rfl, ⟨left3, HB3.out.only HO9.out (by simp; omega)⟩, HO3.out.trans' HO9.out fun i hi => .inr (by simp at hi; omega)⟩
  | done t q =>
    rw [hpt] at hc HF1
    clear hpt
    by_cases hrm : left - (1 + (t.length : Int)) < 0
    · have hc : e = .returned (.agg zeroV.toArray) ∧ Failed wA w3 r (.slice (some ⟨g, off, none⟩) bs.length sc) at_ 3 := by
        have := hc
        simp only [if_pos hrm] at this
        exact this
      have HF := Lib.hid (HF1.out.trans (show (if left - (1 + (t.length : Int)) < 0 then PR.bad ((at_ + 1 : Nat) - 1) 3 else .ok (.mk 5 0 0 (strB t) []) q (left - (1 + (t.length : Int)))) = PR.bad (at_ : Int) 3 by rw [if_pos hrm]; congr 1; omega))
      obtain ⟨rfl, ⟨left3, hb3⟩, ho3⟩ := hc
      clear HF1
      have hz3 := HA.out.2.2.only ho3 (by simp; omega)
      have HB3 := Lib.hid hb3
      have HO3 := Lib.hid (HA.out.2.1.trans ho3)
      clear hb3 ho3
      go_wp2_with (refine wpList_store_blk rfl 33 (.tmp 4) (.tmp 70) rfl zeroV rfl rfl hz3 (by kernel_rfl) (by simp) (by simp [Value.oneCell']) ?_)
      intro w9 hB9 hO9
      have HB9 := Lib.hid (show Blk w9 w.heap.size 33 zeroV.toArray from hB9)
      have HO9 := Lib.hid hO9
      clear hB9 hO9 hz3
      go_wp2
      refine bodyPost_ret (results1 rfl (res_blk (cs := zeroV) Try.underlying33 (by kernel_rfl) rfl HB9.out)) rfl ?_
      rw [HF.out]
      exact ⟨rfl, ⟨left3, HB3.out.only HO9.out (by simp; omega)⟩, HO3.out.trans' HO9.out fun i hi => .inr (by simp at hi; omega)⟩
    · have hc : e = .returned (cellsOfText t) ∧ RG w3 G r bs (.slice (some ⟨g, off, none⟩) bs.length sc) q (left - (1 + (t.length : Int))) ∧ Only [r] wA w3 := by
        have := hc
        simp only [if_neg hrm] at this
        exact this
      have HF := Lib.hid (HF1.out.trans (show (if left - (1 + (t.length : Int)) < 0 then PR.bad ((at_ + 1 : Nat) - 1) 3 else .ok (.mk 5 0 0 (strB t) []) q (left - (1 + (t.length : Int)))) = .ok (.mk 5 0 0 (strB t) []) q (left - (1 + (t.length : Int))) from if_neg hrm))
      obtain ⟨rfl, hps, ho⟩ := hc
      have HP := Lib.hid hps
      have HO := Lib.hid (HA.out.2.1.trans ho)
      have HZ := Lib.hid (HA.out.2.2.only ho (by simp; omega))
      have hts : (strB t).size ≤ maxLen := by
        have : (strB t).size = t.length := by simp [strB, ByteArray.size]
        rw [this]
        unfold maxLen
        omega
      have HTS := Lib.hid hts
      unfold cellsOfText
      clear hps ho HF1 hts hrm
      generalize strB t = tb at *
      go_wp2_with (refine wpList_store_blk rfl 33 (.tmp 4) (.tmp 70) rfl [iv 5, iv 0, fv 0, .string tb, .slice none 0 0] rfl rfl HZ.out (by kernel_rfl) (by simp) (by simp [Value.oneCell']) ?_)
      intro w2 hB2 hO2
      try rw [← HWB.out] at hO2
      have HB2 := Lib.hid hB2
      have HO2 := Lib.hid hO2
      clear hB2 hO2
      go_wp2
      refine bodyPost_ret (results1 rfl (res_blk (cs := [iv 5, iv 0, fv 0, .string tb, .slice none 0 0]) Try.underlying33 (by kernel_rfl) rfl HB2.out)) rfl ?_
      rw [HF.out]
      exact ⟨[iv 5, iv 0, fv 0, .string tb, .slice none 0 0], [], rfl, VO.plain (by decide) (by decide) (by omega) HTS.out, List.nodup_nil, (fun g hg => by cases hg), HGF.out _ _ _ (HP.out.far HO2.out (by simp; omega) (fun g hg hm => by have := (HG.out g hg).2; simp at hm; omega)), HO.out.trans' HO2.out (fun i hi => .inr (by simp at hi; omega))⟩
set_option maxRecDepth 100000 in
set_option maxHeartbeats 3200000 in
theorem rval_six (n : Nat) (HL : ∀ m, m < n → RLstOk m) : ∀ (w : World) (F : Nat → Prop) (r : Nat) (bs : List Nat) (s : Value) (nest at_ : Nat) (left : Int), RG w F r bs s at_ left → 0 ≤ left → left ≤ 65536 → bs.length ≤ 2 ^ 40 → nest ≤ 8 → (at_ < bs.length → 2 * (bs.length - (at_ + 1)) + 2 ≤ n) → ∀ (hp : at_ < bs.length), bs[at_] = 6 →
    Calls Try.prog 38 #[.pointer (some ⟨r, 0, none⟩), iv nest] w (RValPost w F r bs s (rval n bs nest at_ left)) := by
  intro w F r bs s nest at_ left h h0 h1 hbl hn hfu
  have hFr := h.out
  have hst := h.strict
  have HBB := Lib.hid (show ∀ c ∈ bs, c < 256 by obtain ⟨_, _, _, _, _, hb, _⟩ := h.bytes; exact hb)
  have hrl := h.blk.lt
  have hle := h.le
  have hform : ∃ sa sc, s = .slice sa bs.length sc := by obtain ⟨a, cap, e, _⟩ := h.bytes; exact ⟨a, cap, e⟩
  obtain ⟨sa, sc, rfl⟩ := hform
  clear h
  obtain ⟨G, hG⟩ : ∃ G : Nat → Prop, G = fun g => F g ∧ g < w.heap.size := ⟨_, rfl⟩
  rw [← hG] at hst
  have HG := Lib.hid (show ∀ g, G g → F g ∧ g < w.heap.size by rw [hG]; exact fun _ h => h)
  have HGF := Lib.hid (show ∀ (w' : World) (q : Nat) (rm : Int), RG w' G r bs (.slice sa bs.length sc) q rm → RG w' F r bs (.slice sa bs.length sc) q rm from fun _ _ _ h => h.mono (fun g hg => (HG.out g hg).1) hFr)
  have H := Lib.hid hst
  clear hst hG
  obtain ⟨hc, hf, hlt⟩ := H.out.blk.facts
  have x0 := hc 0
  have x1 := hc 1
  have x2 := hc 2
  have x3 := hc 3
  have f1 := hf 1
  have f2 := hf 2
  simp at x0 x1 x2 x3
  clear hc hf
  intro hp hf
  have hpz : ((at_ : Int) == (bs.length : Int)) = false := by rw [beq_eq_false_iff_ne]; omega
  have hpl : (at_ : Int) < (bs.length : Int) := by omega
  obtain ⟨sa', sc', es, _, _, _, hcell⟩ := H.out.bytes
  injection es with e1 _ e3
  subst e1
  subst e3
  obtain ⟨g, off, rfl, hg, hgG, hcc⟩ := hcell (by omega)
  have y0 := hcc at_ hp
  have hgr : g ≠ r := fun e => H.out.out (e ▸ hgG)
  have HF0 := Lib.hid (show rval n bs nest at_ left = pval n bs bs[at_] nest (at_ + 1) left by unfold rval; rw [List.getElem?_eq_getElem hp])
  clear hcell hcc
  rw [hf] at HF0
  rw [hf] at y0
  obtain ⟨n, rfl⟩ : ∃ m, n = m + 1 := ⟨n - 1, by omega⟩
  have HST := Lib.hid (H.out.step hp)
  by_cases h8 : nest = 8
  · subst h8
    have HF := Lib.hid (HF0.out.trans (show _ = PR.bad (at_ : Int) 3 by unfold pval; rw [if_pos ⟨rfl, rfl⟩]; congr 1; omega))
    have HOB := Lib.hid (show Only [r] w (w.alloc (.cells zeroV.toArray 33)).drew ∧ Blk (w.alloc (.cells zeroV.toArray 33)).drew w.heap.size 33 zeroV.toArray from ⟨((Only.refl _ _).alloc _).drew, (Blk.new _ _ _).drew⟩)
    go_enter Try.func38, Try.ntmps38
    go_wp2
    refine Lex.wp_region_text (by kernel_rfl) (by kernel_rfl) ?_
    go_wp2
    refine Lex.sq_done (by rfl) ?_
    go_wp2_with fail
    refine (fail2_ok (H.out.blk.alloc (.cells zeroV.toArray 33)).drew (at_ : Int) 3).mono ?_
    rintro e w8 ⟨rfl, ⟨left8, hb8⟩, ho8⟩
    have hz8 := HOB.out.2.only ho8 (by simp; omega)
    have HB8 := Lib.hid hb8
    have HO8 := Lib.hid (HOB.out.1.trans ho8)
    clear hb8 ho8
    go_wp2_with (refine wpList_store_blk rfl 33 (.tmp 4) (.tmp 58) rfl zeroV rfl rfl hz8 (by kernel_rfl) (by simp) (by simp [Value.oneCell']) ?_)
    intro w9 hB9 hO9
    have HB9 := Lib.hid (show Blk w9 w.heap.size 33 zeroV.toArray from hB9)
    have HO9 := Lib.hid hO9
    clear hB9 hO9 hz8
    go_wp2
    refine bodyPost_ret (results1 rfl (res_blk (cs := zeroV) Try.underlying33 (by kernel_rfl) rfl HB9.out)) rfl ?_
    rw [HF.out]
    exact ⟨rfl, ⟨left8, HB8.out.only HO9.out (by simp; omega)⟩, HO8.out.trans' HO9.out fun i hi => .inr (by simp at hi; omega)⟩
  have h8z : ((nest : Int) == 8) = false := by rw [beq_eq_false_iff_ne]; omega
  obtain ⟨wA, hwA⟩ : ∃ x : World, x = ((w.setCell ⟨r, 1, none⟩ (.int .i64 (at_ + 1))).alloc (.cells zeroV.toArray 33)).drew := ⟨_, rfl⟩
  have HA := Lib.hid (show RG wA G r bs (.slice (some ⟨g, off, none⟩) bs.length sc) (at_ + 1) left ∧ Only [r] w wA ∧ Blk wA w.heap.size 33 zeroV.toArray by
    rw [hwA]
    refine ⟨HST.out.only ((Only.refl _ _).alloc _).drew, (((Only.refl _ _).setCell (.inl (by simp)) _).alloc _).drew, ?_⟩
    have h := Blk.new (w.setCell ⟨r, 1, none⟩ (.int .i64 (at_ + 1))) 33 zeroV.toArray
    rw [show (w.setCell ⟨r, 1, none⟩ (.int .i64 (at_ + 1))).heap.size = w.heap.size by simp] at h
    exact h.drew)
  have HWA := Lib.hid hwA
  clear hwA
  obtain ⟨wB, hwB⟩ : ∃ x : World, x = (((w.setCell ⟨r, 1, none⟩ (.int .i64 (at_ + 1))).setCell ⟨r, 2, none⟩ (.int .i64 (left - 1))).alloc (.cells zeroV.toArray 33)).drew := ⟨_, rfl⟩
  have HB := Lib.hid (show RG wB G r bs (.slice (some ⟨g, off, none⟩) bs.length sc) (at_ + 1) (left - 1) ∧ Only [r] w wB ∧ Blk wB w.heap.size 33 zeroV.toArray by
    rw [hwB]
    refine ⟨(HST.out.put (show Blk ((w.setCell ⟨r, 1, none⟩ (.int .i64 (at_ + 1))).setCell ⟨r, 2, none⟩ (.int .i64 (left - 1))) r 67 #[.slice (some ⟨g, off, none⟩) bs.length sc, iv (at_ + 1 : Nat), iv (left - 1), iv 0] from HST.out.blk.set_ 2 _) ((Only.refl _ _).setCell (.inl (by simp)) _) (by omega)).only ((Only.refl _ _).alloc _).drew, ((((Only.refl _ _).setCell (.inl (by simp)) _).setCell (.inl (by simp)) _).alloc _).drew, ?_⟩
    have h := Blk.new ((w.setCell ⟨r, 1, none⟩ (.int .i64 (at_ + 1))).setCell ⟨r, 2, none⟩ (.int .i64 (left - 1))) 33 zeroV.toArray
    rw [show ((w.setCell ⟨r, 1, none⟩ (.int .i64 (at_ + 1))).setCell ⟨r, 2, none⟩ (.int .i64 (left - 1))).heap.size = w.heap.size by simp] at h
    exact h.drew)
  have HWB := Lib.hid hwB
  clear hwB
  by_cases hrm : left - 1 < 0
  · have hrz : left < 1 := by omega
    have HF := Lib.hid (HF0.out.trans (show _ = PR.bad (at_ : Int) 3 by unfold pval; rw [if_neg (by omega), if_pos (by omega)]; congr 1; omega))
    go_enter Try.func38, Try.ntmps38
    go_wp2
    refine Lex.wp_region_text (by kernel_rfl) (by kernel_rfl) ?_
    go_wp2
    refine Lex.sq_done (by rfl) ?_
    go_wp2_with fail
    rw [← HWA.out]
    have HOB := Lib.hid HA.out.2
    refine (fail2_ok HA.out.1.blk (at_ : Int) 3).mono ?_
    rintro e w8 ⟨rfl, ⟨left8, hb8⟩, ho8⟩
    have hz8 := HOB.out.2.only ho8 (by simp; omega)
    have HB8 := Lib.hid hb8
    have HO8 := Lib.hid (HOB.out.1.trans ho8)
    clear hb8 ho8
    go_wp2_with (refine wpList_store_blk rfl 33 (.tmp 4) (.tmp 78) rfl zeroV rfl rfl hz8 (by kernel_rfl) (by simp) (by simp [Value.oneCell']) ?_)
    intro w9 hB9 hO9
    have HB9 := Lib.hid (show Blk w9 w.heap.size 33 zeroV.toArray from hB9)
    have HO9 := Lib.hid hO9
    clear hB9 hO9 hz8
    go_wp2
    refine bodyPost_ret (results1 rfl (res_blk (cs := zeroV) Try.underlying33 (by kernel_rfl) rfl HB9.out)) rfl ?_
    rw [HF.out]
    exact ⟨rfl, ⟨left8, HB8.out.only HO9.out (by simp; omega)⟩, HO8.out.trans' HO9.out fun i hi => .inr (by simp at hi; omega)⟩
  have hrz : ¬ left < 1 := by omega
  have HF1 := Lib.hid (HF0.out.trans (show _ = plist n bs (nest + 1) (at_ + 1) (left - 1) [] by unfold pval; rw [if_neg (by omega), if_neg (by omega), if_neg (by omega), if_neg (by omega), if_neg (by omega), if_neg (by omega), if_neg (by omega), if_pos rfl]))
  have HC := Lib.hid (HL n (by omega) wB G r bs (.slice (some ⟨g, off, none⟩) bs.length sc) (nest + 1) (at_ + 1) (left - 1) HB.out.1 (by omega) (by omega) hbl (by omega) (by omega))
  go_enter Try.func38, Try.ntmps38
  go_wp2
  refine Lex.wp_region_text (by kernel_rfl) (by kernel_rfl) ?_
  go_wp2
  refine Lex.sq_done (by rfl) ?_
  go_wp2_with fail
  rw [← HWB.out]
  refine HC.out.mono ?_
  clear HC
  intro e w2 hc
  unfold RValPost at hc
  cases hpl : plist n bs (nest + 1) (at_ + 1) (left - 1) [] with
  | bad p c =>
    rw [hpl] at hc HF1
    obtain ⟨rfl, ⟨left3, hb3⟩, ho3⟩ := hc
    have HF := HF1
    clear hpl
    have hz3 := HB.out.2.2.only ho3 (by simp; omega)
    have HB3 := Lib.hid hb3
    have HO3 := Lib.hid (HB.out.2.1.trans ho3)
    clear hb3 ho3
    go_wp2_with (refine wpList_store_blk rfl 33 (.tmp 4) (.tmp 187) rfl zeroV rfl rfl hz3 (by kernel_rfl) (by simp) (by simp [Value.oneCell']) ?_)
    intro w9 hB9 hO9
    have HB9 := Lib.hid (show Blk w9 w.heap.size 33 zeroV.toArray from hB9)
    have HO9 := Lib.hid hO9
    clear hB9 hO9 hz3
    go_wp2
    refine bodyPost_ret (results1 rfl (res_blk (cs := zeroV) Try.underlying33 (by kernel_rfl) rfl HB9.out)) rfl ?_
    rw [HF.out]
    exact ⟨rfl, ⟨left3, HB3.out.only HO9.out (by simp; omega)⟩, HO3.out.trans' HO9.out fun i hi => .inr (by simp at hi; omega)⟩
  | ok v q rm =>
    rw [hpl] at hc HF1
    obtain ⟨cs, S, rfl, hvo, hnd, hge, hps, ho⟩ := hc
    obtain ⟨k, i, rr, t, sa0, sn, sc0, rfl⟩ := hvo.form
    have HVO := Lib.hid (And.intro hvo (And.intro hnd hge))
    have HP2 := Lib.hid hps
    have HO2 := Lib.hid (HB.out.2.1.trans ho)
    have HB2 := Lib.hid (HB.out.2.2.only ho (by simp; omega))
    have hw1 : w.heap.size < wB.heap.size := HB.out.2.2.lt
    clear hvo hnd hge hps ho hpl
    go_wp2_with (refine wpList_store_blk rfl 33 (.tmp 4) (.tmp 187) rfl [iv k, iv i, fv rr, .string t, .slice sa0 sn sc0] rfl rfl HB2.out (by kernel_rfl) (by simp) (by simp [Value.oneCell']) ?_)
    intro w3 hB3 hO3
    have HB3 := Lib.hid hB3
    have HO3 := Lib.hid hO3
    clear hB3 hO3
    go_wp2
    refine bodyPost_ret (results1 rfl (res_blk (cs := [iv k, iv i, fv rr, .string t, .slice sa0 sn sc0]) Try.underlying33 (by kernel_rfl) rfl HB3.out)) rfl ?_
    rw [HF1.out]
    exact ⟨[iv k, iv i, fv rr, .string t, .slice sa0 sn sc0], S, rfl, HVO.out.1.only HO3.out (fun g hg hm => by have := HVO.out.2.2 g hg; simp at hm; omega), HVO.out.2.1, (fun g hg => by have := HVO.out.2.2 g hg; omega), HGF.out _ _ _ (HP2.out.far HO3.out (by simp; omega) (fun g hg hm => by have := (HG.out g hg).2; simp at hm; omega)), HO2.out.trans' HO3.out (fun i hi => .inr (by simp at hi; omega))⟩
/-- A value, from lists. -/
theorem rval_step (n : Nat) (HL : ∀ m, m < n → RLstOk m) : RValOk n := by
  intro w F r bs s nest at_ left h h0 h1 hbl hn hfu
  by_cases hp : at_ < bs.length
  · by_cases k1 : bs[at_] = 1
    · exact rval_one n w F r bs s nest at_ left h h0 h1 hbl hn hfu hp k1
    by_cases k2 : bs[at_] = 2
    · exact rval_two n w F r bs s nest at_ left h h0 h1 hbl hn hfu hp k2
    by_cases k3 : bs[at_] = 3
    · exact rval_three n w F r bs s nest at_ left h h0 h1 hbl hn hfu hp k3
    by_cases k4 : bs[at_] = 4
    · exact rval_four n w F r bs s nest at_ left h h0 h1 hbl hn hfu hp k4
    by_cases k5 : bs[at_] = 5
    · exact rval_five n w F r bs s nest at_ left h h0 h1 hbl hn hfu hp k5
    by_cases k6 : bs[at_] = 6
    · exact rval_six n HL w F r bs s nest at_ left h h0 h1 hbl hn hfu hp k6
    · exact rval_other n w F r bs s nest at_ left h h0 h1 hbl hn hfu hp (by omega)
  · exact rval_end n w F r bs s nest at_ left h h0 h1 hbl hn hp
end Go.Proofs.Ytffdfegelgpniaa
