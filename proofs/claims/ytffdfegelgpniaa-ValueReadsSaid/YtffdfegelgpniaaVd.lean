/-
  take and all: a list's item.
-/
import Derived.Test.YtffdfegelgpniaaVc
import Derived.Test.YtffdfegelgpniaaCuts
import Derived.Outline
import Derived.Handy
set_option linter.unusedSimpArgs false
set_option linter.unusedVariables false
namespace Go.Proofs.Ytffdfegelgpniaa
open Go.RowKit Go.Fl

theorem info_parts {t : TypeId} {z : Value} {n b : Nat} (h : (Try.prog.info? t).map (fun i => (i.zero, i.size, i.bytes)) = some (some z, n, b)) : ∃ i, Try.prog.info? t = some i ∧ i.zero = some z ∧ i.size = n ∧ i.bytes = b := by
  cases hi : Try.prog.info? t with
  | none => rw [hi] at h; cases h
  | some i => rw [hi] at h; simp at h; exact ⟨i, rfl, h.1, h.2.1, h.2.2⟩
theorem own_fresh {W : World} {m : Nat} {u v2 : Value} (hF : ∀ g, u.ownBlock = some g → W.heap.size ≤ g) (hat : v2.ownBlock = u.ownBlock ∨ v2.ownBlock = some m) (hs : W.heap.size ≤ m) : ∀ g, v2.ownBlock = some g → W.heap.size ≤ g := fun g hg => by
  rcases hat with h | h
  · exact hF g (h ▸ hg)
  · rw [h] at hg; injection hg with hg; omega
theorem sl_beside {w w' : World} {e size n : Nat} {v : Value} {xs : List Value} {row : Option Nat} (h : Sl w e size v n xs) (hg : w.grownBy w' row) (hne : ∀ g, v.ownBlock = some g → row ≠ some g) : Sl w' e size v n xs :=
  h.keep fun g hv => hg.block g (h.lt g hv) (fun k => hne g hv k.symm)
theorem nat_of {a : Int} (h : 0 ≤ a) : ∃ x : Nat, a = x := ⟨a.toNat, by omega⟩
theorem info73 : (Try.prog.info? 73).map (fun i => (i.zero, i.size, i.bytes)) = some (some .nilIface, 1, 16) := by kernel_rfl
/-- A list of values, in memory. -/
def VL (w : World) (F : Nat → Prop) (l : List V) (s : Value) : Prop :=
  ∃ a cap, ∃ css : Nat → List Value, s = .slice a l.length cap ∧ l.length ≤ cap ∧ cap ≤ maxLen ∧ (0 < l.length → ∃ g off, a = some ⟨g, off, none⟩ ∧ g < w.heap.size ∧ F g ∧ ∀ j c u, j < l.length → (css j)[c]? = some u → w.cell? ⟨g, off + j * 5 + c, none⟩ = some u) ∧
    ∀ j (h : j < l.length), VIs w F l[j] (css j)
theorem VL.keep {w w' : World} {F F' : Nat → Prop} {l : List V} {s : Value} (h : VL w F l s) (hs : w.heap.size ≤ w'.heap.size) (hk : ∀ g, F g → g < w.heap.size → w'.heap[g]? = w.heap[g]?) (hF : ∀ g, F g → g < w.heap.size → F' g) : VL w' F' l s := by
  obtain ⟨a, cap, css, rfl, h1, h2, h3, h4⟩ := h
  refine ⟨a, cap, css, rfl, h1, h2, fun h0 => ?_, fun j hj => (h4 j hj).keep hs hk hF⟩
  obtain ⟨g, off, rfl, hg, hf, hc⟩ := h3 h0
  exact ⟨g, off, rfl, Nat.lt_of_lt_of_le hg hs, hF g hf hg, fun j c u hj hu => (World.cell?_of_block (w := w) (hk g hf hg)).trans (hc j c u hj hu)⟩
/-- What take and all come to. -/
def TakePost (r : Nat) (w : World) (res : Option I) (room : Int) (e : Ending) (w' : World) : Prop := ∃ u, e = .returned u ∧ OkI w' (w.heap.size ≤ ·) res u ∧ Blk w' r 91 #[iv room] ∧ Only [r] w w'
def TakeOk (v : V) : Prop := ∀ (w : World) (F : Nat → Prop) (cs : List Value) (r : Nat) (room : Int) (nest : Nat), VIs w F v cs → ¬ F r → Blk w r 91 #[iv room] → 0 ≤ room → room ≤ 65536 → nest ≤ 8 →
  Calls Try.prog 60 #[.pointer (some ⟨r, 0, none⟩), .agg cs.toArray, iv nest] w (TakePost r w (v.take nest room).1 (v.take nest room).2)
def AllOk (l : List V) : Prop := ∀ (w : World) (F : Nat → Prop) (s : Value) (r : Nat) (room : Int) (nest : Nat), VL w F l s → ¬ F r → Blk w r 91 #[iv room] → 0 ≤ room → room ≤ 65536 → nest ≤ 9 →
  Calls Try.prog 71 #[.pointer (some ⟨r, 0, none⟩), s, iv nest] w (if 8 < nest then TakePost r w none room else TakePost r w ((takes l nest room).1.map .list) (takes l nest room).2)
/-- Where the loop of all stands. -/
structure AllR (w wr : World) (l : List V) (nest : Nat) (room : Int) (r k : Nat) (lv : Value) (xs : List I) (rm : Int) (us : List Value) : Prop where
  eq : takes (l.take k) nest room = (some xs, rm)
  len : xs.length = k
  low : 0 ≤ rm
  high : rm ≤ 65536
  cnt : rm + k ≤ room
  sl : Sl wr 73 1 lv k us
  own : ∀ g, lv.ownBlock = some g → w.heap.size ≤ g
  items : ∀ j (h : j < xs.length), ∃ u, us[j]? = some (.iface xs[j].typ u) ∧ IIs wr (fun g => w.heap.size ≤ g ∧ lv.ownBlock ≠ some g) xs[j] u
  blk : Blk wr r 91 #[iv rm]
  only : Only [r] w wr

set_option maxRecDepth 100000 in
set_option maxHeartbeats 3200000 in
theorem all_ok (l : List V) (H : ∀ j (h : j < l.length), TakeOk l[j]) : AllOk l := by
  intro w F s r room nest hl hF hB h0 h1 hn
  obtain ⟨j73, si, sz0, sz1, sz2⟩ := info_parts info73
  obtain ⟨a, cap, css, rfl, hlen, hmax, hcell, hvs⟩ := hl
  have HB := Lib.hid hB
  have HC := Lib.hid hcell
  have HV := Lib.hid hvs
  have HH := Lib.hid H
  have hlm : l.length ≤ maxLen := by omega
  clear hB hcell hvs H
  by_cases h8 : 8 < nest
  · rw [if_pos h8]
    have h8z : (8 : Int) < (nest : Int) := by omega
    go_enter Try.func71, Try.ntmps71
    go_wp2
    exact bodyPost_ret (results_tmp rfl _ _ _) rfl ⟨.nilIface, rfl, rfl, HB.out, Only.refl _ _⟩
  rw [if_neg h8]
  have h8z : ¬ (8 : Int) < (nest : Int) := by omega
  go_enter Try.func71, Try.ntmps71
  go_wp2
  have HS0 := Lib.hid (show Sl (w.alloc (.cells #[] 73)) 73 1 (.slice (some ⟨w.heap.size, 0, none⟩) 0 0) 0 [] from ⟨rfl, .inr ⟨_, 0, 0, _, rfl, Blk.new _ _ _, Nat.le_refl _, by decide, Nat.le_refl _, rfl⟩⟩)
  go_loopw [7, 16] (fun lv z wr => ∃ (k : Nat) (xs : List I) (rm : Int) (us : List Value), k ≤ l.length ∧ z = .int .i64 k ∧ Hid (AllR w wr l nest room r k lv xs rm us)) (fun _ z _ => l.length - (intOf z).toNat)
  case atStart =>
    refine ⟨0, [], room, [], Nat.zero_le _, rfl, Lib.hid ⟨by simp [takes], rfl, h0, h1, by simp, HS0.out, fun g hg => ?_, fun j h => absurd h (Nat.not_lt_zero _), HB.out.alloc _, (Only.refl _ _).alloc _⟩⟩
    have : w.heap.size = g := by simpa [Value.ownBlock] using hg
    omega
  case round =>
    obtain ⟨k, xs, rm, us, hk, rfl, HR⟩ := hrel
    obtain ⟨la, lc, hlv, _, _⟩ := HR.out.sl.shape
    subst hlv
    by_cases hkl : k < l.length
    · have hkz : (k : Int) < (l.length : Int) := by omega
      obtain ⟨g, off, rfl, hg, hFg, hcc⟩ := HC.out (by omega)
      have hv := HV.out k hkl
      obtain ⟨c0, c1, c2, c3, c4, c5, c6, hcs⟩ := hv.five
      have hgr : g ∉ [r] := by
        intro e
        simp at e
        exact hF (e ▸ hFg)
      have hx : ∀ c u, (css k)[c]? = some u → wr.cell? ⟨g, off + k * 5 + c, none⟩ = some u := fun c u hu => (HR.out.only.cell (p := ⟨g, off + k * 5 + c, none⟩) hg hgr).trans (hcc k c u hkl hu)
      have x0 := hx 0 (iv c0) (by rw [hcs]; rfl)
      have x1 := hx 1 (iv c1) (by rw [hcs]; rfl)
      have x2 := hx 2 (fv c2) (by rw [hcs]; rfl)
      have x3 := hx 3 (.string c3) (by rw [hcs]; rfl)
      have x4 := hx 4 (.slice c4 c5 c6) (by rw [hcs]; rfl)
      rw [Nat.add_zero] at x0
      clear hx hcc HC
      go_wp2_with (refine wpList_store_blk rfl 33 (.tmp 9) (.tmp 19) rfl [iv c0, iv c1, fv c2, .string c3, .slice c4 c5 c6] rfl rfl (Blk.new _ _ _) (by kernel_rfl) (by simp) (by simp [Value.oneCell']) ?_)
      intro w1 hB1 hO1
      have hO1' : Only [r] w w1 := (HR.out.only.alloc _).trans' hO1 (fun i hi => .inr (by have := HR.out.only.size; simp at hi; omega))
      have hrl := HR.out.blk.lt
      have hBr : Blk w1 r 91 #[iv rm] := (HR.out.blk.alloc _).only hO1 (by simp; omega)
      have y0 := hB1.cell 0
      have y1 := hB1.cell 1
      have y2 := hB1.cell 2
      have y3 := hB1.cell 3
      have y4 := hB1.cell 4
      simp at y0 y1 y2 y3 y4
      have hvw : VIs w1 F l[k] (css k) := hv.only hO1' (fun g hf hm => hF (by simp at hm; exact hm ▸ hf))
      have HT := Lib.hid (HH.out k hkl w1 F (css k) r rm nest hvw hF hBr HR.out.low HR.out.high (by omega))
      rw [hcs] at HT
      clear x0 x1 x2 x3 x4
      go_wp2_with fail
      refine HT.out.mono ?_
      clear HT
      rintro e w2 ⟨u, rfl, hu, hB2, hO2⟩
      have hsp : l.take k ++ l[k] :: l.drop (k + 1) = l := by rw [List.getElem_cons_drop, List.take_append_drop]
      have hO3 : Only [r] w w2 := hO1'.trans hO2
      have HO3 := Lib.hid hO3
      have HB2 := Lib.hid hB2
      have HO13 := Lib.hid (show Only [wr.heap.size, r] wr w2 from (((Only.refl _ wr).alloc _).trans' hO1 (fun i hi => .inl (by simp at hi ⊢; exact .inl hi))).trans' hO2 (fun i hi => .inl (by simp at hi ⊢; exact .inr hi)))
      have HW1 := Lib.hid (show wr.heap.size + 1 ≤ w1.heap.size by have := hO1.size; simpa using this)
      clear hvw hO1' hO1 hB1 hBr hrl y0 y1 y2 y3 y4 hB2 hO2 hO3 hv hgr hg hFg
      cases ht : (l[k].take nest rm).1 with
      | none =>
        rw [ht] at hu
        obtain rfl : u = .nilIface := hu
        have hfin := takes_snoc_none (l.take k) l[k] nest room xs rm HR.out.eq ht (l.drop (k + 1))
        rw [hsp] at hfin
        have HF := Lib.hid hfin
        clear hfin hsp ht
        go_wp2
        exact bodyPost_ret (results_tmp rfl _ _ _) rfl ⟨.nilIface, rfl, by rw [HF.out]; rfl, by rw [HF.out]; exact HB2.out, HO3.out⟩
      | some x =>
        rw [ht] at hu
        obtain ⟨u', rfl, hx⟩ := hu
        have HX := Lib.hid hx
        have hfin := takes_snoc_some (l.take k) l[k] nest room xs rm x HR.out.eq ht
        have HF := Lib.hid hfin
        have hrm := V.take_room l[k] nest rm x ht
        generalize hgx : (l[k].take nest rm).2 = rm2 at *
        clear hfin hsp ht hgx hx
        have hcnt := HR.out.cnt
        have hwl := HR.out.only.size
        have hrw := HB.out.lt
        have hO13 := HO13.out
        have HS := Lib.hid (HR.out.sl.only hO13 (fun g hg => by
          have h2 := HR.out.own g hg
          have h3 := HR.out.sl.lt g hg
          simp
          omega))
        go_wp2_with (at_builtin; refine wpList_append_one (news := [.iface x.typ u']) rfl (.tmp 26) (.tmp 28) 112 rfl 73 j73 _ 1 16 Try.underlying112 si sz0 sz1 sz2 rfl (by decide) rfl (HS.out.alloc _) rfl (Blk.new _ _ _) rfl (by simp [Value.oneCell']) (by unfold maxLen; omega) (by omega) ?_)
        intro v3 w3 hS3 hg3 hat3
        have HI := Lib.hid (show ∀ j (h : j < (xs ++ [x]).length), ∃ u, (us ++ [Value.iface x.typ u'])[j]? = some (.iface (xs ++ [x])[j].typ u) ∧ IIs w3 (fun g => w.heap.size ≤ g ∧ v3.ownBlock ≠ some g) (xs ++ [x])[j] u from fun j hj => by
          have hlx := HR.out.len
          have hlu : us.length = k := by have := HR.out.sl.len; omega
          by_cases hjk : j < xs.length
          · obtain ⟨u0, h1, h2⟩ := HR.out.items j hjk
            rw [List.getElem_append_left hjk, List.getElem?_append_left (by omega)]
            refine ⟨u0, h1, h2.keep (Nat.le_trans hO13.size (Nat.le_trans (by simp) hg3.size)) (fun g hf hg => ?_) fun g hf hg => ⟨hf.1, fun e => ?_⟩⟩
            · exact ((hg3.block g (by have := hO13.size; simp; omega) (fun e => hf.2 e.symm)).trans (Below.heap_alloc w2 _ g (Nat.lt_of_lt_of_le hg hO13.size))).trans (hO13.block g hg (by have := hf.1; simp; omega))
            · rcases hat3 with e2 | e2
              · exact hf.2 (e2 ▸ e)
              · rw [e2] at e
                injection e with e
                have := hO13.size
                omega
          · have hje : j = xs.length := by simp at hj; omega
            subst hje
            refine ⟨u', by rw [List.getElem?_append_right (by omega)]; simp [hlx, hlu], ?_⟩
            rw [List.getElem_append_right (by omega)]
            simp only [Nat.sub_self, List.getElem_cons_zero]
            have hw1 : wr.heap.size + 1 ≤ w1.heap.size := HW1.out
            refine HX.out.keep (Nat.le_trans (by simp) hg3.size) (fun g hf hg => ?_) fun g hf hg => ⟨by omega, fun e => ?_⟩
            · exact (hg3.block g (by simp; omega) (fun e => by have := HR.out.sl.lt g e.symm; omega)).trans (Below.heap_alloc w2 _ g hg)
            · rcases hat3 with e2 | e2
              · have := HR.out.sl.lt g (e2 ▸ e)
                omega
              · rw [e2] at e
                injection e with e
                omega)
        have HRn := Lib.hid (show AllR w w3 l nest room r (k + 1) v3 (xs ++ [x]) rm2 (us ++ [Value.iface x.typ u']) from
          ⟨by rw [List.take_succ_eq_append_getElem hkl]; exact HF.out, by simp [HR.out.len], hrm.1, by have := HR.out.high; omega, by push_cast; omega, hS3,
            own_fresh HR.out.own hat3 (by have := hO13.size; simp; omega), HI.out, (hg3.block r (by have := HB2.out.lt; simp; omega) (fun e => by have := HR.out.own r e.symm; omega)).trans (HB2.out.alloc _),
            (HO3.out.alloc _).grown hg3 (fun g hg => .inr (HR.out.own g hg))⟩)
        clear HI hS3 hg3 hat3 HS HR
        go_wp2
        go_roundw
        case measure => simp [intOf]; omega
        case rel => exact ⟨k + 1, _, _, _, by omega, by go_num, HRn⟩
    · obtain rfl : k = l.length := by omega
      have hfin : (takes l nest room).1 = some xs ∧ (takes l nest room).2 = rm := by
        have := HR.out.eq
        rw [List.take_length] at this
        rw [this]
        exact ⟨rfl, rfl⟩
      have HF := Lib.hid hfin
      clear hfin
      have HI := Lib.hid (show IIs wr (w.heap.size ≤ ·) (.list xs) (.slice la l.length lc) from by
        obtain ⟨la', lc', hlv, hlc, hlm2, hfree⟩ : ∃ a c, Value.slice la l.length lc = .slice a l.length c ∧ l.length ≤ c ∧ c ≤ maxLen ∧ True := by
          rcases HR.out.sl.2 with ⟨e, e2⟩ | ⟨g, off, cap', cur, e, hh, h1, h2, _, _⟩
          · exact ⟨_, _, e.trans (by rw [e2]), by omega, by decide, trivial⟩
          · exact ⟨_, _, e, h1, h2, trivial⟩
        injection hlv with e1 _ e3
        subst e1
        subst e3
        have hlx : xs.length = l.length := HR.out.len
        rw [← hlx]
        have hus : ∀ j (h : j < xs.length), ∃ u, us[j]? = some (.iface xs[j].typ u) ∧ IIs wr (w.heap.size ≤ ·) xs[j] u := fun j h => by
          obtain ⟨u, h1, h2⟩ := HR.out.items j h
          exact ⟨u, h1, h2.mono fun g hg => hg.1⟩
        refine .list (fun j => if h : j < xs.length then (hus j h).choose else undef) (by omega) hlm2 (fun h0 => ?_) fun j h => ?_
        · obtain ⟨g, off, cap', hv, hg, _, _, hc, _⟩ := HR.out.sl.form (by omega)
          injection hv with e1 _ _
          subst e1
          refine ⟨g, off, rfl, hg, HR.out.own g rfl, fun j h => ?_⟩
          simp only [h, dif_pos]
          exact (hc j (by omega)).trans (hus j h).choose_spec.1
        · simp only [h, dif_pos]
          exact (hus j h).choose_spec.2)
      go_wp2
      refine bodyPost_ret (results_tmp rfl _ _ _) rfl ⟨.iface 112 (.slice la l.length lc), rfl, ?_, ?_, HR.out.only⟩
      · rw [HF.out.1]
        exact ⟨_, rfl, HI.out⟩
      · rw [HF.out.2]
        exact HR.out.blk
end Go.Proofs.Ytffdfegelgpniaa
