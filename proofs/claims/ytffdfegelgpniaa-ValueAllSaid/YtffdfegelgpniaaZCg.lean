/-
  The book of values: Keep.
-/
import Derived.Test.YtffdfegelgpniaaZCf
set_option linter.unusedSimpArgs false
set_option linter.unusedVariables false
set_option linter.unusedSimpArgs false
set_option linter.unusedVariables false
namespace Go.Proofs.Ytffdfegelgpniaa
open Go.Fl Go.RowKit

mutual
/-- No list in it is long. -/
def V.small : V → Prop
  | .mk _ _ _ _ l => l.length ≤ 65536 ∧ Smalls l
def Smalls : List V → Prop
  | [] => True
  | v :: l => v.small ∧ Smalls l
end
theorem Smalls.get : ∀ {l : List V}, Smalls l → ∀ j (h : j < l.length), l[j].small
  | [], _, j, h => absurd h (Nat.not_lt_zero _)
  | v :: l, hs, 0, _ => hs.1
  | v :: l, hs, j + 1, h => Smalls.get hs.2 j (by simpa using h)
theorem takes_len : ∀ (l : List V) (nest : Nat) (room : Int) (xs : List I), (takes l nest room).1 = some xs → 0 ≤ room → (l.length : Int) ≤ room
  | [], nest, room, xs, h, h0 => by simpa using h0
  | v :: l, nest, room, xs, h, h0 => by
    cases hh : v.take nest room with
    | mk a b =>
      cases a with
      | none => simp [takes, hh] at h
      | some y =>
        simp only [takes, hh] at h
        have h1 := V.take_room v nest room y (by rw [hh])
        rw [hh] at h1
        cases hl : (takes l nest b).1 with
        | none => rw [hl] at h; cases h
        | some ys =>
          have h2 := takes_len l nest b ys hl h1.1
          have h3 : b < room := h1.2
          simp only [List.length_cons]
          omega
mutual
theorem take_small : ∀ (v : V) (nest : Nat) (room : Int) (x : I), (v.take nest room).1 = some x → room ≤ 65536 → v.small
  | .mk k i r t l, nest, room, x, h, hr => by
    unfold V.take at h
    by_cases hb : bad k i r t l.length (room - 1) = true
    · rw [if_pos hb] at h; cases h
    rw [if_neg hb] at h
    have hb' := hb
    unfold bad at hb'
    simp only [Bool.or_eq_true, Bool.and_eq_true, decide_eq_true_eq] at hb'
    by_cases k6 : k = 6
    · rw [if_neg (by omega), if_neg (by omega), if_neg (by omega), if_neg (by omega), if_neg (by omega), if_pos k6] at h
      split at h
      · cases h
      · cases hh : (takes l (nest + 1) (room - 1)).1 with
        | none => simp only [hh] at h; cases h
        | some xs =>
          have h1 := takes_len l (nest + 1) (room - 1) xs hh (by omega)
          exact ⟨by omega, takes_small l (nest + 1) (room - 1) xs hh (by omega)⟩
    · obtain rfl : l = [] := List.length_eq_zero_iff.1 (by omega)
      exact ⟨by simp, trivial⟩
theorem takes_small : ∀ (l : List V) (nest : Nat) (room : Int) (xs : List I), (takes l nest room).1 = some xs → room ≤ 65536 → Smalls l
  | [], nest, room, xs, h, hr => trivial
  | v :: l, nest, room, xs, h, hr => by
    cases hh : v.take nest room with
    | mk a b =>
      cases a with
      | none => simp [takes, hh] at h
      | some y =>
        simp only [takes, hh] at h
        have h1 := V.take_room v nest room y (by rw [hh])
        rw [hh] at h1
        have h3 : b < room := h1.2
        cases hl : (takes l nest b).1 with
        | none => rw [hl] at h; cases h
        | some ys => exact ⟨take_small v nest room y (by rw [hh]) hr, takes_small l nest b ys hl (by omega)⟩
end
theorem item_small {v : V} {x : I} (h : v.item = some x) : v.small := take_small v 0 65536 x h (by omega)
/-- The block of a slice in memory. -/
theorem Sl.blk {w : World} {e size n : Nat} {v : Value} {xs : List Value} (h : Sl w e size v n xs) {g : Nat} (hg : v.ownBlock = some g) : ∃ cur, Blk w g e cur := by
  rcases h.2 with ⟨rfl, _⟩ | ⟨g', off, cap, cur, rfl, hh, _⟩
  · cases hg
  · injection hg with hg
    subst hg
    exact ⟨cur, hh⟩
theorem VO.blk {w : World} {v : V} {cs : List Value} {S : List Nat} (h : VO w v cs S) : ∀ g ∈ S, ∃ cur, Blk w g 33 cur := by
  induction h with
  | @mk k i r t l s css Ss h1 h2 h3 h4 h5 h6 h7 h8 ih =>
    intro g hg
    rcases List.mem_append.1 hg with hg | hg
    · exact Sl.blk h7 (by simpa using hg)
    · obtain ⟨S, hS, hg⟩ := List.mem_flatten.1 hg
      obtain ⟨j, hj, rfl⟩ := List.getElem_of_mem hS
      have := ih j (by omega) g
      rw [List.getD_eq_getElem?_getD, List.getElem?_eq_getElem hj] at this
      exact this hg
/-- The book in memory: each list that was kept in a block of its own; all of it in blocks from N on. -/
structure BK (N : Nat) (w : World) (r : Nat) (bsl : Value) (ents : List Value) : Prop where
  rge : N ≤ r
  blk : Blk w r 27 #[bsl]
  sl : Sl w 31 1 bsl ents.length ents
  sge : ∀ g, bsl.ownBlock = some g → N ≤ g
  ent : ∀ (j : Nat) (h : j < ents.length), ∃ g off n cap xs, ents[j] = .slice (some ⟨g, off, none⟩) n cap ∧ N ≤ g ∧ n ≤ 65536 ∧ Sl w 33 5 (.slice (some ⟨g, off, none⟩) n cap) n xs
  apart : ∀ (i j : Nat) (hi : i < ents.length) (hj : j < ents.length), i < j → ents[i].ownBlock ≠ ents[j].ownBlock
section
variable {N : Nat} {w w' : World} {r : Nat} {bsl : Value} {ents : List Value}
theorem BK.keep (h : BK N w r bsl ents) (hr : w'.heap[r]? = w.heap[r]?) (hs : ∀ g, bsl.ownBlock = some g → w'.heap[g]? = w.heap[g]?) (he : ∀ g cur, Blk w g 33 cur → w'.heap[g]? = w.heap[g]?) : BK N w' r bsl ents :=
  ⟨h.rge, hr.trans h.blk, h.sl.keep hs, h.sge, fun j hj => by
    obtain ⟨g, off, n, cap, xs, h1, h2, h3, h4⟩ := h.ent j hj
    refine ⟨g, off, n, cap, xs, h1, h2, h3, h4.keep fun g' hg' => ?_⟩
    obtain ⟨cur, hb⟩ := Sl.blk h4 hg'
    exact he g' cur hb, h.apart⟩
theorem BK.only0 (h : BK N w r bsl ents) (ho : Only [] w w') : BK N w' r bsl ents :=
  h.keep (ho.block _ h.blk.lt (by simp)) (fun g hg => ho.block g (h.sl.lt g hg) (by simp)) fun g cur hb => ho.block g (Blk.lt hb) (by simp)
theorem BK.far5 {g : Nat} {cs : Array Value} (h : BK N w r bsl ents) (hb : Blk w g 5 cs) (ho : Only [g] w w') : BK N w' r bsl ents :=
  h.keep (ho.block _ h.blk.lt (by simpa using Blk.ne_ h.blk hb (by decide))) (fun g' hg' => by
    obtain ⟨cur, hb'⟩ := Sl.blk h.sl hg'
    exact ho.block g' hb'.lt (by simpa using Blk.ne_ hb' hb (by decide))) fun g' cur hb' => ho.block g' (Blk.lt hb') (by simpa using Blk.ne_ hb' hb (by decide))
/-- What is besides the book stays. -/
theorem BK.besides (h : BK N w r bsl ents) (ho : Only (r :: bsl.ownBlock.toList) w w') {g t : Nat} {cur : Array Value} (hb : Blk w g t cur) (h1 : t ≠ 27) (h2 : t ≠ 31) : w'.heap[g]? = w.heap[g]? := by
  refine ho.block g hb.lt fun hm => ?_
  rcases List.mem_cons.1 hm with e | hm
  · exact Blk.ne_ hb h.blk h1 e
  · obtain ⟨cur', hb'⟩ := Sl.blk h.sl (show bsl.ownBlock = some g by simpa using hm)
    exact Blk.ne_ hb hb' h2 rfl
end
/-- What Keep leaves. -/
def KeepPost (N : Nat) (w : World) (r : Nat) (bsl : Value) (ents : List Value) (S : List Nat) (w' : World) : Prop :=
  ∃ bsl2 ents2, BK N w' r bsl2 ents2 ∧ (∀ (j : Nat) (h : j < ents2.length), (∃ (i : Nat) (hi : i < ents.length), ents2[j] = ents[i]) ∨ ∃ g ∈ S, ents2[j].ownBlock = some g) ∧
    (∀ g, bsl2.ownBlock = some g → bsl.ownBlock = some g ∨ w.heap.size ≤ g) ∧ Only (r :: bsl.ownBlock.toList) w w'
def KeepOk (v : V) : Prop := ∀ (N : Nat) (w : World) (r : Nat) (bsl : Value) (ents : List Value) (cs : List Value) (S : List Nat), BK N w r bsl ents → N ≤ w.heap.size → VO w v cs S → S.Nodup → (∀ g ∈ S, N ≤ g) → (∀ (j : Nat) (h : j < ents.length), ∀ g ∈ S, ents[j].ownBlock ≠ some g) → v.small →
  Calls Try.prog 16 #[.pointer (some ⟨r, 0, none⟩), .agg cs.toArray] w fun e w' => e = .returned (.tuple #[]) ∧ KeepPost N w r bsl ents S w'

theorem nodup_at {Ss : List (List Nat)} (h : Ss.flatten.Nodup) {k : Nat} (hk : k < Ss.length) : (Ss.getD k []).Nodup ∧ (∀ g ∈ (Ss.take k).flatten, g ∉ Ss.getD k []) ∧ (Ss.take (k + 1)).flatten = (Ss.take k).flatten ++ Ss.getD k [] := by
  have e : Ss.getD k [] = Ss[k] := by rw [List.getD_eq_getElem?_getD, List.getElem?_eq_getElem hk]; rfl
  have h2 : Ss.flatten = (Ss.take k).flatten ++ (Ss[k] ++ (Ss.drop (k + 1)).flatten) := by
    conv => lhs; rw [← List.take_append_drop k Ss, List.flatten_append, List.drop_eq_getElem_cons hk, List.flatten_cons]
  rw [h2] at h
  obtain ⟨_, h3, h4⟩ := List.nodup_append.1 h
  refine ⟨e ▸ (List.nodup_append.1 h3).1, fun g hg hm => h4 g hg g (List.mem_append_left _ (e ▸ hm)) rfl, ?_⟩
  rw [List.take_succ_eq_append_getElem hk, List.flatten_append, e]
  simp
theorem flatten_take_mem {Ss : List (List Nat)} {k g : Nat} (h : g ∈ (Ss.take k).flatten) : g ∈ Ss.flatten := by
  obtain ⟨S, hS, hg⟩ := List.mem_flatten.1 h
  exact List.mem_flatten.2 ⟨S, List.mem_of_mem_take hS, hg⟩
theorem info31 : (Try.prog.info? 31).map (fun i => (i.zero, i.size, i.bytes)) = some (some (.slice none 0 0), 1, 24) := by kernel_rfl
structure KR (N : Nat) (w w0 wr : World) (r : Nat) (bsl : Value) (ents : List Value) (Ss : List (List Nat)) (k : Nat) (bsl2 : Value) (ents2 : List Value) : Prop where
  bk : BK N wr r bsl2 ents2
  src : ∀ (j : Nat) (h : j < ents2.length), (∃ (i : Nat) (hi : i < ents.length), ents2[j] = ents[i]) ∨ ∃ g ∈ (Ss.take k).flatten, ents2[j].ownBlock = some g
  own : ∀ g, bsl2.ownBlock = some g → bsl.ownBlock = some g ∨ w.heap.size ≤ g
  only : Only (r :: bsl.ownBlock.toList) w0 wr
set_option maxRecDepth 100000 in
set_option maxHeartbeats 3200000 in
theorem keep_step (v : V) (H : ∀ x ∈ v.kids, KeepOk x) : KeepOk v := by
  intro N w r bsl ents cs S hbk hN hvo hnd hge hdis hsm
  obtain ⟨j31, si, sz0, sz1, sz2⟩ := info_parts info31
  cases hvo with
  | @mk k0 i0 rr t l s css Ss h1 h2 h3 h4 h5 h6 h7 h8 =>
  have hlen : l.length ≤ 65536 := hsm.1
  have HSM := Lib.hid (Smalls.get hsm.2)
  have HH := Lib.hid (fun (j : Nat) (h : j < l.length) => H l[j] (show l[j] ∈ (V.mk k0 i0 rr t l).kids from List.getElem_mem h))
  have HVO := Lib.hid h8
  have HSL := Lib.hid h7
  obtain ⟨a, cap, rfl, hcap, hnone⟩ := h7.shape
  have HND := Lib.hid (List.nodup_append.1 hnd)
  have HGE := Lib.hid hge
  have HDIS := Lib.hid hdis
  have HC5 := Lib.hid (show ∀ cs ∈ css, cs.length = 5 from fun cs hm => by
    obtain ⟨j, hj, rfl⟩ := List.getElem_of_mem hm
    have := (h8 j (by omega)).len
    rwa [List.getD_eq_getElem?_getD, List.getElem?_eq_getElem hj] at this)
  obtain ⟨w0, hw0⟩ : ∃ x : World, x = w.alloc (.cells #[iv k0, iv i0, fv rr, .string t, .slice a l.length cap] 33) := ⟨_, rfl⟩
  have HW0 := Lib.hid hw0
  have HO0 := Lib.hid (show Only [] w w0 by rw [hw0]; exact (Only.refl _ _).alloc _)
  have HB0 := Lib.hid (show Blk w0 w.heap.size 33 #[iv k0, iv i0, fv rr, .string t, .slice a l.length cap] by rw [hw0]; exact Blk.new _ _ _)
  have HK0 := Lib.hid (hbk.only0 HO0.out)
  have HBK := Lib.hid hbk
  clear hw0 h1 h2 h3 h4 h7 h8 hnd hge hdis hsm H hbk
  go_enter Try.func16, Try.ntmps16
  go_wp2
  rw [← HW0.out]
  go_loopw [4] (fun z wr => ∃ (k : Nat) (bsl2 : Value) (ents2 : List Value), k ≤ l.length ∧ z = .int .i64 k ∧ Hid (KR N w w0 wr r bsl ents Ss k bsl2 ents2)) (fun z _ => l.length - (intOf z).toNat)
  case atStart => exact ⟨0, bsl, ents, Nat.zero_le _, rfl, Lib.hid ⟨HK0.out, fun j h => .inl ⟨j, h, rfl⟩, fun g hg => .inl hg, Only.refl _ _⟩⟩
  case round =>
    obtain ⟨k, bsl2, ents2, hk, rfl, HR⟩ := hrel
    have HBS := Lib.hid (fun (g t : Nat) (cur : Array Value) (hb : Blk w g t cur) (q1 : t ≠ 27) (q2 : t ≠ 31) => (HK0.out.besides HR.out.only ((show Blk w0 g t cur from hb.only HO0.out (by simp))) q1 q2).trans (HO0.out.block g hb.lt (by simp)))
    have HBr := Lib.hid (show Blk wr w.heap.size 33 #[iv k0, iv i0, fv rr, .string t, .slice a l.length cap] from (HK0.out.besides HR.out.only HB0.out (by decide) (by decide)).trans HB0.out)
    have HSr := Lib.hid (show Sl wr 33 5 (.slice a l.length cap) l.length css.flatten from HSL.out.keep fun g hg => by
      obtain ⟨cur, hb⟩ := Sl.blk HSL.out hg
      exact HBS.out g 33 cur hb (by decide) (by decide))
    have b4 := HBr.out.cell 4
    simp at b4
    have hsz : w.heap.size ≤ wr.heap.size := Nat.le_trans HO0.out.size HR.out.only.size
    by_cases hkl : k < l.length
    · have hkz : (k : Int) < (l.length : Int) := by omega
      have hV := (HVO.out k hkl).keep (w' := wr) fun g hg => by
        obtain ⟨cur, hb⟩ := VO.blk (HVO.out k hkl) g hg
        exact HBS.out g 33 cur hb (by decide) (by decide)
      obtain ⟨g, off, cap', hv, hg, _, _, hcell, _⟩ := HSr.out.form (by omega)
      injection hv with e1 _ e3
      subst e1
      subst e3
      obtain ⟨c0, c1, c2, c3, c4, c5, c6, hcs⟩ := hV.form
      have hx : ∀ c u, c < 5 → (css.getD k [])[c]? = some u → wr.cell? ⟨g, off + k * 5 + c, none⟩ = some u := fun c u hc hu => by
        rw [Nat.add_assoc, hcell (k * 5 + c) (by omega), flatten_five css HC5.out k c (by omega) hc]
        exact hu
      have x0 := hx 0 (iv c0) (by omega) (by rw [hcs]; rfl)
      have x1 := hx 1 (iv c1) (by omega) (by rw [hcs]; rfl)
      have x2 := hx 2 (fv c2) (by omega) (by rw [hcs]; rfl)
      have x3 := hx 3 (.string c3) (by omega) (by rw [hcs]; rfl)
      have x4 := hx 4 (.slice c4 c5 c6) (by omega) (by rw [hcs]; rfl)
      rw [Nat.add_zero] at x0
      obtain ⟨n1, n2, n3⟩ := nodup_at HND.out.2.1 (k := k) (by omega)
      have HQ := Lib.hid (HH.out k hkl N wr r bsl2 ents2 (css.getD k []) (Ss.getD k []) HR.out.bk (by omega) hV n1 (fun g hg => HGE.out g (List.mem_append_right _ (flatten_mem (by omega) hg))) (fun j hj g hg e => by
        rcases HR.out.src j hj with ⟨i, hi, e2⟩ | ⟨g2, hg2, e2⟩
        · rw [e2] at e
          exact HDIS.out i hi g (List.mem_append_right _ (flatten_mem (by omega) hg)) e
        · rw [e2] at e
          injection e with e
          subst e
          exact n2 _ hg2 hg) (HSM.out k hkl))
      rw [hcs] at HQ
      clear hx hcell hV n1 n2
      go_wp2_with fail
      refine HQ.out.mono ?_
      clear HQ x0 x1 x2 x3 x4
      rintro e w4 ⟨rfl, bsl3, ents3, hb3, hs3, ho3, hon3⟩
      have HR3 := Lib.hid (show KR N w w0 w4 r bsl ents Ss (k + 1) bsl3 ents3 from by
        refine ⟨hb3, fun j hj => ?_, fun g hg => ?_, HR.out.only.trans' hon3 fun i hi => ?_⟩
        · rw [n3]
          rcases hs3 j hj with ⟨i, hi, e⟩ | ⟨g, hg, e⟩
          · rcases HR.out.src i hi with ⟨i2, hi2, e2⟩ | ⟨g2, hg2, e2⟩
            · exact .inl ⟨i2, hi2, e.trans e2⟩
            · exact .inr ⟨g2, List.mem_append_left _ hg2, by rw [e]; exact e2⟩
          · exact .inr ⟨g, List.mem_append_right _ hg, e⟩
        · rcases ho3 g hg with e | e
          · exact HR.out.own g e
          · exact .inr (by omega)
        · rcases List.mem_cons.1 hi with e | hi
          · exact .inl (by simp [e])
          · rcases HR.out.own i (by simpa using hi) with e | e
            · exact .inl (by simp [e])
            · by_cases hi0 : i < w0.heap.size
              · exfalso
                obtain ⟨cur, hb⟩ := Sl.blk HR.out.bk.sl (show bsl2.ownBlock = some i by simpa using hi)
                have h0 : w0.heap.size = w.heap.size + 1 := by rw [HW0.out]; simp
                have : i = w.heap.size := by omega
                subst this
                exact Blk.ne_ hb HBr.out (by decide) rfl
              · exact .inr (by omega))
      clear hb3 hs3 ho3 hon3 n3
      go_wp2
      go_roundw
      case measure => simp [intOf]; omega
      case rel => exact ⟨k + 1, bsl3, ents3, by omega, by go_num, HR3⟩
    · obtain rfl : k = l.length := by omega
      have hft : (Ss.take l.length).flatten = Ss.flatten := by rw [List.take_of_length_le (by omega)]
      have HPOST := Lib.hid (show KeepPost N w r bsl ents ((Value.slice a l.length cap).ownBlock.toList ++ Ss.flatten) wr from
        ⟨bsl2, ents2, HR.out.bk, fun j hj => by
          rcases HR.out.src j hj with e | ⟨g, hg, e⟩
          · exact .inl e
          · exact .inr ⟨g, List.mem_append_right _ (hft ▸ hg), e⟩, HR.out.own, (HO0.out.mono (by simp)).trans HR.out.only⟩)
      obtain ⟨ba, bc, hbs, hbc, _⟩ := HR.out.bk.sl.shape
      subst hbs
      have r0 := HR.out.bk.blk.cell 0
      have rf0 := HR.out.bk.blk.frozen 0
      have hrl := HR.out.bk.blk.lt
      simp at r0
      by_cases hc0 : 0 < cap
      case neg =>
        have hcz : ¬ (0 : Int) < (cap : Int) := by omega
        go_wp2
        exact bodyPost_end (results_none rfl _ _ _) rfl ⟨rfl, HPOST.out⟩
      have hcz : (0 : Int) < (cap : Int) := by omega
      by_cases hen : ents2.length < 20000
      case neg =>
        have henz : ¬ (ents2.length : Int) < 20000 := by omega
        go_wp2
        exact bodyPost_end (results_none rfl _ _ _) rfl ⟨rfl, HPOST.out⟩
      have henz : (ents2.length : Int) < 20000 := by omega
      go_wp2
      refine Lex.wp_region_text (by kernel_rfl) (by kernel_rfl) ?_
      go_wp2_with (at_builtin; refine wpList_append_one (news := [.slice a l.length cap]) rfl (.tmp 35) (.tmp 38) 25 rfl 31 j31 _ 1 24 Try.underlying25 si sz0 sz1 sz2 rfl (by decide) rfl (HR.out.bk.sl.drew.alloc _) rfl (Blk.new _ _ _) rfl (by simp [Value.oneCell']) (by unfold maxLen; omega) (by omega) ?_)
      intro v7 w7 hS7 hg7 hat7
      obtain ⟨ga, oa, rfl⟩ : ∃ g off, a = some ⟨g, off, none⟩ := by
        rcases HSr.out.2 with ⟨e, _⟩ | ⟨g', off', cap', cur, e, _⟩
        · injection e with e1 e2 e3
          omega
        · injection e with e1 _ _
          exact ⟨g', off', e1⟩
      have hbb := HR.out.bk
      have hr7 : Blk w7 r 27 #[.slice ba ents2.length bc] := by
        refine (hg7.block r (Nat.lt_of_lt_of_le hbb.blk.lt (by simp)) fun e => ?_).trans (hbb.blk.drew.alloc _)
        obtain ⟨cur, hb⟩ := Sl.blk hbb.sl e.symm
        exact Blk.ne_ hb hbb.blk (by decide) rfl
      obtain ⟨a7, c7, rfl⟩ := sl_form hS7
      have hr8 : Blk (w7.setCell ⟨r, 0, none⟩ (.slice a7 (ents2.length + 1) c7)) r 27 #[.slice a7 (ents2.length + 1) c7] := hr7.set_ 0 _
      have h8 : ∀ (g t : Nat) (cur : Array Value), Blk wr g t cur → t ≠ 27 → t ≠ 31 → (w7.setCell ⟨r, 0, none⟩ (.slice a7 (ents2.length + 1) c7)).heap[g]? = wr.heap[g]? := fun g t cur hb q1 q2 => by
        have e1 : w7.heap[g]? = wr.heap[g]? := (hg7.block g (Nat.lt_of_lt_of_le hb.lt (by simp)) fun e => by
          obtain ⟨cur', hb'⟩ := Sl.blk hbb.sl e.symm
          exact Blk.ne_ hb hb' q2 rfl).trans (Below.heap_alloc wr.drew _ g hb.lt)
        exact (Below.heap_setCell w7 _ _ g (show g ≠ r from Blk.ne_ hb hbb.blk q1)).trans e1
      have hs8 : Sl (w7.setCell ⟨r, 0, none⟩ (.slice a7 (ents2.length + 1) c7)) 31 1 (.slice a7 (ents2.length + 1) c7) (ents2 ++ [Value.slice (some ⟨ga, oa, none⟩) l.length cap]).length (ents2 ++ [Value.slice (some ⟨ga, oa, none⟩) l.length cap]) := by
        have h := hS7.far (p := ⟨r, 0, none⟩) (fun e => by
          obtain ⟨cur, hb⟩ := Sl.blk hS7 e
          exact Blk.ne_ hb hr7 (by decide) rfl) (.slice a7 (ents2.length + 1) c7)
        simpa using h
      have hge8 : ∀ g, (Value.slice a7 (ents2.length + 1) c7).ownBlock = some g → (Value.slice ba ents2.length bc).ownBlock = some g ∨ wr.heap.size + 1 = g := fun g hg => by
        rcases hat7 with e | e
        · exact .inl (e ▸ hg)
        · rw [e] at hg
          injection hg with hg
          exact .inr hg
      have hent : ∀ (j : Nat) (h : j < (ents2 ++ [Value.slice (some ⟨ga, oa, none⟩) l.length cap]).length), ((∃ (hj : j < ents2.length), (ents2 ++ [Value.slice (some ⟨ga, oa, none⟩) l.length cap])[j] = ents2[j]) ∨ (j = ents2.length ∧ (ents2 ++ [Value.slice (some ⟨ga, oa, none⟩) l.length cap])[j] = .slice (some ⟨ga, oa, none⟩) l.length cap)) := fun j h => by
        by_cases hj : j < ents2.length
        · exact .inl ⟨hj, List.getElem_append_left hj⟩
        · have hje : j = ents2.length := by simp at h; omega
          subst hje
          exact .inr ⟨rfl, by simp⟩
      have hbk8 : BK N (w7.setCell ⟨r, 0, none⟩ (.slice a7 (ents2.length + 1) c7)) r (.slice a7 (ents2.length + 1) c7) (ents2 ++ [.slice (some ⟨ga, oa, none⟩) l.length cap]) := by
        refine ⟨hbb.rge, hr8, hs8, fun g hg => ?_, fun j hj => ?_, fun i j hi hj hij => ?_⟩
        · rcases hge8 g hg with e | e
          · exact hbb.sge g e
          · omega
        · rcases hent j hj with ⟨hj2, e⟩ | ⟨_, e⟩
          · obtain ⟨g, off, n, cp, xs, q1, q2, q3, q4⟩ := hbb.ent j hj2
            exact ⟨g, off, n, cp, xs, e.trans q1, q2, q3, q4.keep fun g' hg' => by
              obtain ⟨cur, hb⟩ := Sl.blk q4 hg'
              exact h8 g' 33 cur hb (by decide) (by decide)⟩
          · exact ⟨ga, oa, l.length, cap, css.flatten, e, HGE.out ga (List.mem_append_left _ (by simp [Value.ownBlock])), hlen, HSr.out.keep fun g' hg' => by
              obtain ⟨cur, hb⟩ := Sl.blk HSr.out hg'
              exact h8 g' 33 cur hb (by decide) (by decide)⟩
        · rcases hent i hi with ⟨hi2, e1⟩ | ⟨hi2, e1⟩
          · rcases hent j hj with ⟨hj2, e2⟩ | ⟨_, e2⟩
            · rw [e1, e2]
              exact hbb.apart i j hi2 hj2 hij
            · rw [e1, e2]
              intro e
              rcases HR.out.src i hi2 with ⟨i2, hi3, e3⟩ | ⟨g, hg, e3⟩
              · exact HDIS.out i2 hi3 ga (List.mem_append_left _ (by simp [Value.ownBlock])) (by rw [← e3, e]; rfl)
              · rw [e] at e3
                injection e3 with e3
                exact HND.out.2.2 ga (by simp [Value.ownBlock]) g (hft ▸ hg) e3
          · simp at hj
            omega
      have HPOST8 := Lib.hid (show KeepPost N w r bsl ents ((Value.slice (some ⟨ga, oa, none⟩) l.length cap).ownBlock.toList ++ Ss.flatten) (w7.setCell ⟨r, 0, none⟩ (.slice a7 (ents2.length + 1) c7)) from by
        refine ⟨_, _, hbk8, fun j hj => ?_, fun g hg => ?_, ?_⟩
        · rcases hent j hj with ⟨hj2, e⟩ | ⟨_, e⟩
          · rw [e]
            rcases HR.out.src j hj2 with e | ⟨g, hg, e⟩
            · exact .inl e
            · exact .inr ⟨g, List.mem_append_right _ (hft ▸ hg), e⟩
          · rw [e]
            exact .inr ⟨ga, List.mem_append_left _ (by simp [Value.ownBlock]), rfl⟩
        · rcases hge8 g hg with e | e
          · exact HR.out.own g e
          · exact .inr (by omega)
        · have ho7 : Only (r :: bsl.ownBlock.toList) w w7 := ((((HO0.out.mono (by simp)).trans HR.out.only).drew).alloc _).grown hg7 fun g hg => by
            rcases HR.out.own g hg with e | e
            · exact .inl (by simp [e])
            · exact .inr e
          exact ho7.setCell (.inl (by simp)) _)
      have z0 := hr7.cell 0
      have zf0 := hr7.frozen 0
      have zl := hr7.lt
      simp at z0
      clear hS7 hg7 hat7 hbb hr7 hr8 h8 hs8 hge8 hent hbk8 HPOST r0 rf0 hrl
      go_wp2
      refine Lex.sq_done (by rfl) ?_
      go_wp2
      exact bodyPost_end (results_none rfl _ _ _) rfl ⟨rfl, HPOST8.out⟩
theorem keep_ok (v : V) : KeepOk v := by
  refine V.rec (motive_1 := KeepOk) (motive_2 := fun l => ∀ x ∈ l, KeepOk x) ?_ ?_ ?_ v
  · intro k i r t l ih
    exact keep_step _ ih
  · intro x hx; cases hx
  · intro a l ha hl x hx
    rcases List.mem_cons.1 hx with rfl | hx
    · exact ha
    · exact hl x hx
end Go.Proofs.Ytffdfegelgpniaa
