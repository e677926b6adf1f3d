/-
  The lists of bytes that are kept: Keep.
-/
import Derived.Test.YtffdfegelgpniaaZCi
set_option linter.unusedSimpArgs false
set_option linter.unusedVariables false
set_option linter.unusedSimpArgs false
set_option linter.unusedVariables false
namespace Go.Proofs.Ytffdfegelgpniaa
open Go.Fl Go.RowKit

/-- The lists of bytes in memory: each in a block of its own; all of it in blocks from N on. -/
structure QK (N : Nat) (w : World) (r : Nat) (bsl : Value) (sz : Nat) (ents : List Value) : Prop where
  rge : N ≤ r
  blk : Blk w r 53 #[bsl, iv sz]
  szl : sz ≤ 4194304
  cnt : ents.length ≤ sz
  sl : Sl w 28 1 bsl ents.length ents
  sge : ∀ g, bsl.ownBlock = some g → N ≤ g
  ent : ∀ (j : Nat) (h : j < ents.length), ∃ g off n cap xs, ents[j] = .slice (some ⟨g, off, none⟩) n cap ∧ N ≤ g ∧ n ≤ 4194304 ∧ Sl w 5 1 (.slice (some ⟨g, off, none⟩) n cap) n xs
  apart : ∀ (i j : Nat) (hi : i < ents.length) (hj : j < ents.length), i < j → ents[i].ownBlock ≠ ents[j].ownBlock
section
variable {N : Nat} {w w' : World} {r sz : Nat} {bsl : Value} {ents : List Value}
theorem QK.keep (h : QK N w r bsl sz ents) (hr : w'.heap[r]? = w.heap[r]?) (hs : ∀ g, bsl.ownBlock = some g → w'.heap[g]? = w.heap[g]?) (he : ∀ g cur, Blk w g 5 cur → w'.heap[g]? = w.heap[g]?) : QK N w' r bsl sz ents :=
  ⟨h.rge, hr.trans h.blk, h.szl, h.cnt, h.sl.keep hs, h.sge, fun j hj => by
    obtain ⟨g, off, n, cap, xs, h1, h2, h3, h4⟩ := h.ent j hj
    refine ⟨g, off, n, cap, xs, h1, h2, h3, h4.keep fun g' hg' => ?_⟩
    obtain ⟨cur, hb⟩ := Sl.blk h4 hg'
    exact he g' cur hb, h.apart⟩
theorem QK.only0 (h : QK N w r bsl sz ents) (ho : Only [] w w') : QK N w' r bsl sz ents :=
  h.keep (ho.block _ h.blk.lt (by simp)) (fun g hg => ho.block g (h.sl.lt g hg) (by simp)) fun g cur hb => ho.block g (Blk.lt hb) (by simp)
/-- Blocks of other types may change. -/
theorem QK.types (h : QK N w r bsl sz ents) (hk : ∀ g t cur, Blk w g t cur → t = 53 ∨ t = 28 ∨ t = 5 → w'.heap[g]? = w.heap[g]?) : QK N w' r bsl sz ents :=
  h.keep (hk _ _ _ h.blk (.inl rfl)) (fun g hg => by
    obtain ⟨cur, hb⟩ := Sl.blk h.sl hg
    exact hk _ _ _ hb (.inr (.inl rfl))) fun g cur hb => hk _ _ _ hb (.inr (.inr rfl))
/-- What is besides stays. -/
theorem QK.besides (h : QK N w r bsl sz ents) (ho : Only (r :: bsl.ownBlock.toList) w w') {g t : Nat} {cur : Array Value} (hb : Blk w g t cur) (h1 : t ≠ 53) (h2 : bsl.ownBlock ≠ some g) : w'.heap[g]? = w.heap[g]? := by
  refine ho.block g hb.lt fun hm => ?_
  rcases List.mem_cons.1 hm with e | hm
  · exact Blk.ne_ hb h.blk h1 e
  · exact h2 (by simpa using hm)
end
/-- Lists that are laid down. -/
structure KS (N : Nat) (w : World) (ls : Value) (ks ents : List Value) : Prop where
  sl : Sl w 28 1 ls ks.length ks
  len : ks.length ≤ 1000
  ent : ∀ (i : Nat) (h : i < ks.length), ∃ a n cap xs, ks[i] = .slice a n cap ∧ n ≤ 1099511627776 ∧ Sl w 5 1 (.slice a n cap) n xs ∧ ∀ g, (Value.slice a n cap).ownBlock = some g → N ≤ g
  apart : ∀ (i j : Nat) (hi : i < ks.length) (hj : j < ks.length), i < j → ∀ g, ks[i].ownBlock = some g → ks[j].ownBlock ≠ some g
  dis : ∀ (j i : Nat) (hj : j < ents.length) (hi : i < ks.length) (g : Nat), ks[i].ownBlock = some g → ents[j].ownBlock ≠ some g
structure QR (N : Nat) (w wr : World) (r : Nat) (bsl : Value) (ks ents : List Value) (k : Nat) (bsl2 : Value) (sz2 : Nat) (ents2 : List Value) : Prop where
  qk : QK N wr r bsl2 sz2 ents2
  src : ∀ (j : Nat) (h : j < ents2.length), (∃ (i : Nat) (hi : i < ents.length), ents2[j] = ents[i]) ∨ ∃ (i : Nat) (hi : i < ks.length), i < k ∧ ents2[j] = ks[i]
  own : ∀ g, bsl2.ownBlock = some g → bsl.ownBlock = some g ∨ w.heap.size ≤ g
  only : Only (r :: bsl.ownBlock.toList) w wr
theorem info28 : (Try.prog.info? 28).map (fun i => (i.zero, i.size, i.bytes)) = some (some (.slice none 0 0), 1, 24) := by kernel_rfl
/-- One more list is kept. -/
theorem QK.grow {N : Nat} {w w7 : World} {r sz m : Nat} {bsl v7 : Value} {ents : List Value} {g off n cap : Nat} {xs : List Value} (h : QK N w r bsl sz ents) (hm : m ≤ 4194304) (hc : sz < m) (hn : n ≤ 4194304) (hgn : N ≤ g) (hS : Sl w 5 1 (.slice (some ⟨g, off, none⟩) n cap) n xs)
    (hd : ∀ (j : Nat) (h : j < ents.length), ents[j].ownBlock ≠ some g) (hN : N ≤ w.heap.size) (hs : w.heap.size ≤ w7.heap.size)
    (hS7 : Sl w7 28 1 v7 (ents.length + 1) (ents ++ [.slice (some ⟨g, off, none⟩) n cap])) (hat : ∀ g, v7.ownBlock = some g → bsl.ownBlock = some g ∨ w.heap.size ≤ g) (hr7 : Blk w7 r 53 #[v7, iv m]) (hk : ∀ g' cur, Blk w g' 5 cur → w7.heap[g']? = w.heap[g']?) :
    QK N w7 r v7 m (ents ++ [.slice (some ⟨g, off, none⟩) n cap]) := by
  have hent : ∀ (j : Nat) (h : j < (ents ++ [Value.slice (some ⟨g, off, none⟩) n cap]).length), ((∃ (hj : j < ents.length), (ents ++ [Value.slice (some ⟨g, off, none⟩) n cap])[j] = ents[j]) ∨ (j = ents.length ∧ (ents ++ [Value.slice (some ⟨g, off, none⟩) n cap])[j] = .slice (some ⟨g, off, none⟩) n cap)) := fun j h => by
    by_cases hj : j < ents.length
    · exact .inl ⟨hj, List.getElem_append_left hj⟩
    · have hje : j = ents.length := by simp at h; omega
      subst hje
      exact .inr ⟨rfl, by simp⟩
  refine ⟨h.rge, hr7, hm, by have := h.cnt; simp; omega, by simpa using hS7, fun g' hg' => ?_, fun j hj => ?_, fun i j hi hj hij => ?_⟩
  · rcases hat g' hg' with e | e
    · exact h.sge g' e
    · omega
  · rcases hent j hj with ⟨hj2, e⟩ | ⟨_, e⟩
    · obtain ⟨g2, off2, n2, cp2, xs2, q1, q2, q3, q4⟩ := h.ent j hj2
      exact ⟨g2, off2, n2, cp2, xs2, e.trans q1, q2, q3, q4.keep fun g' hg' => by
        obtain ⟨cur, hb⟩ := Sl.blk q4 hg'
        exact hk g' cur hb⟩
    · exact ⟨g, off, n, cap, xs, e, hgn, hn, hS.keep fun g' hg' => by
        obtain ⟨cur, hb⟩ := Sl.blk hS hg'
        exact hk g' cur hb⟩
  · rcases hent i hi with ⟨hi2, e1⟩ | ⟨hi2, e1⟩
    · rcases hent j hj with ⟨hj2, e2⟩ | ⟨_, e2⟩
      · rw [e1, e2]
        exact h.apart i j hi2 hj2 hij
      · rw [e1, e2]
        exact hd i hi2
    · simp at hj
      omega
set_option maxRecDepth 100000 in
set_option maxHeartbeats 3200000 in
theorem keepB_ok {N : Nat} {w : World} {r sz : Nat} {bsl ls : Value} {ents ks : List Value} (hq : QK N w r bsl sz ents) (hk : KS N w ls ks ents) (hN : N ≤ w.heap.size) (hls : ∀ g, ls.ownBlock = some g → bsl.ownBlock ≠ some g) :
    Calls Try.prog 31 #[.pointer (some ⟨r, 0, none⟩), ls] w fun e w' => e = .returned (.tuple #[]) ∧ ∃ bsl2 zz ents2, QR N w w' r bsl ks ents ks.length bsl2 zz ents2 := by
  obtain ⟨j28, si, sz0, sz1, sz2⟩ := info_parts info28
  have hkl := hk.len
  have HK := Lib.hid hk
  have HQK := Lib.hid hq
  have HLS := Lib.hid hls
  obtain ⟨la, lc, rfl, hlc, hln⟩ := hk.sl.shape
  clear hk hq hls
  go_enter Try.func31, Try.ntmps31
  go_wp2
  go_loopw [4] (fun z wr => ∃ (k : Nat) (bsl2 : Value) (zz : Nat) (ents2 : List Value), k ≤ ks.length ∧ z = .int .i64 k ∧ Hid (QR N w wr r bsl ks ents k bsl2 zz ents2)) (fun z _ => ks.length - (intOf z).toNat)
  case atStart => exact ⟨0, bsl, sz, ents, Nat.zero_le _, rfl, Lib.hid ⟨HQK.out, fun j h => .inl ⟨j, h, rfl⟩, fun g hg => .inl hg, Only.refl _ _⟩⟩
  case round =>
    obtain ⟨k, bsl2, zz, ents2, hk, rfl, HR⟩ := hrel
    by_cases hkk : k < ks.length
    case neg =>
      obtain rfl : k = ks.length := by omega
      go_wp2
      exact bodyPost_end (results_none rfl _ _ _) rfl ⟨rfl, bsl2, zz, ents2, HR.out⟩
    have hkz : (k : Int) < (ks.length : Int) := by omega
    have hLr : Sl wr 28 1 (.slice la ks.length lc) ks.length ks := HK.out.sl.keep fun g hg => by
      obtain ⟨cur, hb⟩ := Sl.blk HK.out.sl hg
      exact HQK.out.besides HR.out.only hb (by decide) (HLS.out g hg)
    obtain ⟨gl, ol, cl, el, hgl, _, _, hcell, _⟩ := hLr.form (by omega)
    injection el with e1 _ e3
    subst e1
    subst e3
    have x0 := hcell k (by omega)
    rw [List.getElem?_eq_getElem hkk] at x0
    obtain ⟨a, n, cap, xs, ek, hn, hS, hge⟩ := HK.out.ent k hkk
    rw [ek] at x0
    have hnc := hS.shape
    obtain ⟨a', cap', ev, hcap, hnone⟩ := hnc
    injection ev with e1 _ e3
    subst e1
    subst e3
    have HSr := Lib.hid (show Sl wr 5 1 (.slice a n cap) n xs from hS.keep fun g hg => by
      obtain ⟨cur, hb⟩ := Sl.blk hS hg
      refine HQK.out.besides HR.out.only hb (by decide) fun e => ?_
      obtain ⟨cur2, hb2⟩ := Sl.blk HQK.out.sl e
      exact Blk.ne_ hb hb2 (by decide) rfl)
    have HGE := Lib.hid hge
    have HEK := Lib.hid ek
    have HQ := Lib.hid (fun w' => room_ok w' n cap hn)
    clear hcell hS hge ek hLr
    obtain ⟨m, hm⟩ : ∃ m, m = min cap (n + 5000) := ⟨_, rfl⟩
    have HM := Lib.hid hm
    rw [← hm] at HQ
    have HM0 := Lib.hid (show zz ≤ 4194304 ∧ m ≤ 1099511627776 + 5000 from ⟨HR.out.qk.szl, by omega⟩)
    have HNM := Lib.hid (show m = 0 ∨ (0 < cap ∧ n ≤ m) by omega)
    clear hm hln hnone hn hcap
    have r0 := HR.out.qk.blk.cell 0
    have rf0 := HR.out.qk.blk.frozen 0
    have r1 := HR.out.qk.blk.cell 1
    have rf1 := HR.out.qk.blk.frozen 1
    have hrl := HR.out.qk.blk.lt
    simp at r0 r1
    go_wp2
    refine Lex.wp_region_text (by kernel_rfl) (by kernel_rfl) ?_
    go_wp2_with fail
    refine (HQ.out _).mono ?_
    clear HQ
    rintro e w2 ⟨rfl, rfl⟩
    go_wp2
    refine Lex.sq_done (by rfl) ?_
    have HR1 := Lib.hid (show QR N w wr r bsl ks ents (k + 1) bsl2 zz ents2 from ⟨HR.out.qk, fun j hj => by
      rcases HR.out.src j hj with e | ⟨i, hi, h1, h2⟩
      · exact .inl e
      · exact .inr ⟨i, hi, by omega, h2⟩, HR.out.own, HR.out.only⟩)
    have HRD := Lib.hid (show QR N w wr.drew r bsl ks ents (k + 1) bsl2 zz ents2 from ⟨HR1.out.qk.only0 (Only.refl _ _).drew, HR1.out.src, HR1.out.own, HR1.out.only.drew⟩)
    by_cases hmz : m = 0
    · subst hmz
      go_wp2
      go_roundw
      case measure => simp [intOf]; omega
      case rel => exact ⟨k + 1, bsl2, zz, ents2, by omega, by go_num, HRD⟩
    have hm1 : ((m : Int) == 0) = false := by rw [beq_eq_false_iff_ne]; omega
    have hmw : wrap64 ((zz : Int) + (m : Int)) = ((zz + m : Nat) : Int) := by have := HM0.out; unfold wrap64; omega
    by_cases hml : (4194304 : Int) < ((zz + m : Nat) : Int)
    · go_wp2
      go_roundw
      case measure => simp [intOf]; omega
      case rel => exact ⟨k + 1, bsl2, zz, ents2, by omega, by go_num, HRD⟩
    go_upto_region 6 with fail
    have hmz3 : (zz : Int) + (m : Int) = ((zz + m : Nat) : Int) := by omega
    rw [hmz3]
    obtain ⟨w5, hw5⟩ : ∃ x : World, x = (wr.setCell ⟨r, 1, none⟩ (iv ((zz + m : Nat) : Int))).drew := ⟨_, rfl⟩
    have HN5 := Lib.hid (show m ≠ 0 ∧ zz + m ≤ 4194304 by omega)
    have HO5 := Lib.hid (show Only [r] wr w5 by rw [hw5]; exact ((Only.refl _ _).setCell (.inl (by simp)) _).drew)
    have HB5 := Lib.hid (show Blk w5 r 53 #[bsl2, iv ((zz + m : Nat) : Int)] by rw [hw5]; exact (HR.out.qk.blk.set_ 1 _).drew)
    rw [← hw5]
    clear hw5 hmz3 hml hmw hm1 hmz r0 rf0 r1 rf1 hrl HRD
    have hK5 : ∀ (g t : Nat) (cur : Array Value), Blk wr g t cur → t ≠ 53 → w5.heap[g]? = wr.heap[g]? := fun g t cur hb ht => HO5.out.block g hb.lt (by simpa using Blk.ne_ hb HR.out.qk.blk ht)
    have HS5 := Lib.hid (show Sl w5 28 1 bsl2 ents2.length ents2 from HR.out.qk.sl.keep fun g hg => by
      obtain ⟨cur, hb⟩ := Sl.blk HR.out.qk.sl hg
      exact hK5 g 28 cur hb (by decide))
    have hL5 : w5.cell? ⟨gl, ol + k, none⟩ = some (.slice a n cap) := by
      have hLr : Sl wr 28 1 (.slice (some ⟨gl, ol, none⟩) ks.length lc) ks.length ks := HK.out.sl.keep fun g hg => by
        obtain ⟨cur, hb⟩ := Sl.blk HK.out.sl hg
        exact HQK.out.besides HR.out.only hb (by decide) (HLS.out g hg)
      obtain ⟨cur, hb⟩ := Sl.blk hLr (g := gl) rfl
      exact (World.cell?_of_block (w := wr) (hK5 gl 28 cur hb (by decide))).trans x0
    clear x0
    obtain ⟨ba, bc, hbs, hbc, _⟩ := HR.out.qk.sl.shape
    subst hbs
    have r0 := HB5.out.cell 0
    have rf0 := HB5.out.frozen 0
    have hrl := HB5.out.lt
    have hgl5 : gl < w5.heap.size := Nat.lt_of_lt_of_le hgl HO5.out.size
    simp at r0
    have HEL := Lib.hid (show ents2.length ≤ 4194304 from Nat.le_trans HR.out.qk.cnt HR.out.qk.szl)
    go_wp2
    refine Lex.wp_region_text (by kernel_rfl) (by kernel_rfl) ?_
    go_wp2_with (at_builtin; refine wpList_append_one (news := [.slice a n cap]) rfl (.tmp 47) (.tmp 52) 22 rfl 28 j28 _ 1 24 Try.underlying22 si sz0 sz1 sz2 rfl (by decide) rfl (HS5.out.drew.alloc _) rfl (Blk.new _ _ _) rfl (by simp [Value.oneCell']) (by have := HEL.out; unfold maxLen; omega) (by have := HEL.out; omega) ?_)
    intro v7 w7 hS7 hg7 hat7
    obtain ⟨a7, c7, rfl⟩ := sl_form hS7
    obtain ⟨ga, oa, rfl⟩ : ∃ g off, a = some ⟨g, off, none⟩ := by
      have h1 := HN5.out
      rcases HSr.out.2 with ⟨e, _⟩ | ⟨g', off', cap', cur, e, _⟩
      · injection e with e1 e2 e3
        rcases HNM.out with h2 | h2 <;> omega
      · injection e with e1 _ _
        exact ⟨g', off', e1⟩
    have hr7 : Blk w7 r 53 #[.slice ba ents2.length bc, iv ((zz + m : Nat) : Int)] := by
      refine (hg7.block r (Nat.lt_of_lt_of_le HB5.out.lt (by simp)) fun e => ?_).trans (HB5.out.drew.alloc _)
      obtain ⟨cur, hb⟩ := Sl.blk HS5.out e.symm
      exact Blk.ne_ hb HB5.out (by decide) rfl
    have h8 : ∀ (g : Nat) (cur : Array Value), Blk wr g 5 cur → (w7.setCell ⟨r, 0, none⟩ (.slice a7 (ents2.length + 1) c7)).heap[g]? = wr.heap[g]? := fun g cur hb => by
      have hb5 := (hK5 g 5 cur hb (by decide)).trans hb
      have e1 : w7.heap[g]? = wr.heap[g]? := ((hg7.block g (Nat.lt_of_lt_of_le (Blk.lt hb5) (by simp)) fun e => by
        obtain ⟨cur', hb'⟩ := Sl.blk HS5.out e.symm
        exact Blk.ne_ hb5 hb' (by decide) rfl).trans (Below.heap_alloc w5.drew _ g (Blk.lt hb5))).trans (hK5 g 5 cur hb (by decide))
      exact (Below.heap_setCell w7 _ _ g (show g ≠ r from Blk.ne_ hb HR.out.qk.blk (by decide))).trans e1
    have hs8 : Sl (w7.setCell ⟨r, 0, none⟩ (.slice a7 (ents2.length + 1) c7)) 28 1 (.slice a7 (ents2.length + 1) c7) (ents2.length + 1) (ents2 ++ [Value.slice (some ⟨ga, oa, none⟩) n cap]) := hS7.far (p := ⟨r, 0, none⟩) (fun e => by
        obtain ⟨cur, hb⟩ := Sl.blk hS7 e
        exact Blk.ne_ hb hr7 (by decide) rfl) (.slice a7 (ents2.length + 1) c7)
    have hw7 : w5.heap.size ≤ w7.heap.size := by
      have := hg7.size
      simp at this
      omega
    have hge8 : ∀ g, (Value.slice a7 (ents2.length + 1) c7).ownBlock = some g → (Value.slice ba ents2.length bc).ownBlock = some g ∨ w5.heap.size ≤ g := fun g hg => by
      rcases hat7 with e | e
      · exact .inl (e ▸ hg)
      · rw [e] at hg
        injection hg with hg
        exact .inr (by rw [← hg]; simp)
    have hr8 : Blk (w7.setCell ⟨r, 0, none⟩ (.slice a7 (ents2.length + 1) c7)) r 53 #[.slice a7 (ents2.length + 1) c7, iv ((zz + m : Nat) : Int)] := hr7.set_ 0 _
    have hws : wr.heap.size ≤ w5.heap.size := HO5.out.size
    have hwn : w.heap.size ≤ wr.heap.size := HR.out.only.size
    have hdisg : ∀ (j : Nat) (h : j < ents2.length), ents2[j].ownBlock ≠ some ga := fun j hj e => by
      have hka : ks[k].ownBlock = some ga := by rw [HEK.out]; rfl
      rcases HR.out.src j hj with ⟨i, hi, e2⟩ | ⟨i, hi, h1, e2⟩
      · rw [e2] at e
        exact HK.out.dis i k hi hkk ga hka e
      · rw [e2] at e
        exact HK.out.apart i k hi hkk h1 ga e hka
    have hqk8 := HR.out.qk.grow (w7 := w7.setCell ⟨r, 0, none⟩ (.slice a7 (ents2.length + 1) c7)) (m := zz + m) HN5.out.2 (by have := HN5.out.1; omega) (by have := HN5.out; have := HNM.out; omega) (HGE.out ga rfl) HSr.out hdisg (by omega) (by simp; omega) hs8 (fun g hg => (hge8 g hg).imp id (fun h => by omega)) hr8 h8
    have HPOST := Lib.hid (show QR N w (w7.setCell ⟨r, 0, none⟩ (.slice a7 (ents2.length + 1) c7)) r bsl ks ents (k + 1) (.slice a7 (ents2.length + 1) c7) (zz + m) (ents2 ++ [.slice (some ⟨ga, oa, none⟩) n cap]) from by
      refine ⟨hqk8, fun j hj => ?_, fun g hg => ?_, ?_⟩
      · by_cases hj2 : j < ents2.length
        · rw [List.getElem_append_left hj2]
          exact HR1.out.src j hj2
        · have hje : j = ents2.length := by simp at hj; omega
          subst hje
          exact .inr ⟨k, hkk, by omega, by rw [HEK.out]; simp⟩
      · rcases hge8 g hg with e | e
        · exact HR.out.own g e
        · exact .inr (by omega)
      · have ho5 : Only (r :: bsl.ownBlock.toList) w w5 := HR.out.only.trans (HO5.out.mono (by simp))
        have ho7 : Only (r :: bsl.ownBlock.toList) w w7 := ((ho5.drew).alloc _).grown hg7 fun g hg => by
          rcases HR.out.own g hg with e | e
          · exact .inl (by simp [e])
          · exact .inr e
        exact ho7.setCell (.inl (by simp)) _)
    have z0 := hr7.cell 0
    have zf0 := hr7.frozen 0
    have zl := hr7.lt
    simp at z0
    clear hS7 hg7 hat7 hr7 h8 hs8 hge8 hr8 hqk8 hdisg hK5 hL5 r0 rf0 hrl
    go_wp2
    refine Lex.sq_done (by rfl) ?_
    go_wp2
    go_roundw
    case measure => simp [intOf]; omega
    case rel => exact ⟨k + 1, _, _, _, by omega, by go_num, HPOST⟩
end Go.Proofs.Ytffdfegelgpniaa
