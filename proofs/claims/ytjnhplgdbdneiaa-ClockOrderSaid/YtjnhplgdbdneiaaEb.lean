/-
  ClockOrder: the walk.
-/
import Derived.Test.YtjnhplgdbdneiaaEa
import Derived.Test.YtjnhplgdbdneiaaEc
import Derived.Laws.MakeOwn
set_option linter.unusedSimpArgs false
set_option linter.unusedVariables false
namespace Go.Proofs.Ytjnhplgdbdneiaa
open Go.RowKit Go.Fl

theorem info29 : (Try.prog.info? 29).map (fun i => (i.zero, i.size, i.bytes)) = some (some (fv 0), 1, 8) := by kernel_rfl
/-- Timers have been set, of the lengths of time ats. -/
structure O1 (w w1 wr : World) (ats : List Nat) (l L : List Tm) (s z : Value) : Prop where
  ck : CK wr w1.heap.size 0 ats.length l s
  rel : Rel l L
  perm : L.Perm (tms ats 0)
  sl : Sl wr 29 1 z ats.length (ats.map fv)
  fresh : ∀ g, z.ownBlock = some g → w1.heap.size ≤ g
  own : ∀ g, s.ownBlock = some g → w1.heap.size ≤ g
  pl : ∀ d ∈ ats, plB d = true ∧ d < 18446744073709551616
  only : Only [] w wr
theorem O1.len {w w1 wr : World} {ats : List Nat} {l L : List Tm} {s z : Value} (h : O1 w w1 wr ats l L s z) : l.length = ats.length := by
  rw [h.rel.len, h.perm.length_eq, tms_len]
theorem sl_one29 {w : World} {g : Nat} {a : Value} (h : Blk w g 29 #[a]) : Sl w 29 1 (.slice (some ⟨g, 0, none⟩) 1 1) 1 [a] :=
  ⟨rfl, .inr ⟨g, 0, 1, _, rfl, h, Nat.le_refl _, by decide, Nat.le_refl _, rfl⟩⟩
/-- One more is set. -/
theorem O1.push {w w1 wr w2 : World} {ats : List Nat} {l L : List Tm} {s s2 z : Value} {d : Nat} (h : O1 w w1 wr ats l L s z) (hw : w.heap.size ≤ w1.heap.size) (hp : plB d = true) (hd : d < 18446744073709551616)
    (hc : CK w2 w1.heap.size 0 ((ats.length : Int) + 1) (hpush l ((ats.length : Int) + 1, addW 0 (plV d))) s2) (hg : GW wr w1.heap.size s w2 s2) :
    ∃ L2, CK w2 w1.heap.size 0 ((ats ++ [d]).length : Nat) (hpush l ((ats.length : Int) + 1, plV d)) s2 ∧ Rel (hpush l ((ats.length : Int) + 1, plV d)) L2 ∧ L2.Perm (tms (ats ++ [d]) 0) ∧ Sl w2 29 1 z ats.length (ats.map fv) ∧ (∀ g, s2.ownBlock = some g → w1.heap.size ≤ g) ∧ Only [] w w2 := by
  obtain ⟨L2, h1, h2⟩ := tms_push (d := d) h.rel h.perm
  rw [addW_zero (plB_le hd hp).1] at hc
  refine ⟨L2, ?_, h1, h2, h.sl.only hg.only fun g hz hm => ?_, fun g hs => ?_, h.only.trans' hg.only fun i hi => ?_⟩
  · have e : (((ats ++ [d]).length : Nat) : Int) = (ats.length : Int) + 1 := by simp
    rw [e]
    exact hc
  · obtain ⟨cur, hb⟩ := sl_ty h.sl hz
    rcases List.mem_cons.1 hm with e | hm
    · exact Blk.ne_ hb h.ck.blk (by decide) e
    · obtain ⟨cur2, hb2⟩ := sl_ty h.ck.sl (show s.ownBlock = some g by simpa using hm)
      exact Blk.ne_ hb hb2 (by decide) rfl
  · rcases hg.own g hs with e | e
    · exact h.own g e
    · have := h.ck.blk.lt
      omega
  · right
    rcases List.mem_cons.1 hi with e | hi
    · omega
    · have := h.own i (by simpa using hi)
      omega
theorem wrap_small {i n : Nat} (h : n ≤ 100) (hi : i < n) : wrap64 ((i : Int) + 1) = ((i + 1 : Nat) : Int) := wrap_to (by omega) (by omega)
theorem meas {M k : Nat} (h : M - (k + 1) < M - k) : M - (intOf (.int .i64 ((k + 1 : Nat) : Int))).toNat < M - (intOf (.int .i64 (k : Int))).toNat := h
/-- What has gone off last. -/
def lastT (A : List Tm) : Nat := match A.getLast? with
  | none => 13830554455654793216
  | some x => x.2
def lastI (A : List Tm) : Int := match A.getLast? with
  | none => 0
  | some x => x.1
/-- The time goes on: A have gone off, B are left. -/
structure O2 (w w1 wr : World) (ats : List Nat) (L A B m : List Tm) (s za zo : Value) (now k : Nat) (offs : List Bool) : Prop where
  ck : CK wr w1.heap.size now ats.length m s
  rel : Rel m B
  srt : Srt L
  perm : L.Perm (tms ats 0)
  eq : L = A ++ B
  nle : now ≤ pw k
  le : ∀ x ∈ A, x.2 ≤ now
  sl : Sl wr 29 1 za ats.length (ats.map fv)
  fa : ∀ g, za.ownBlock = some g → w1.heap.size ≤ g
  so : Sl wr 4 1 zo ats.length (offs.map Value.bool)
  fo : ∀ g, zo.ownBlock = some g → w1.heap.size ≤ g
  off : ∀ i (h : i < offs.length), offs[i] = decide (((i : Int) + 1) ∈ A.map (·.1))
  own : ∀ g, s.ownBlock = some g → w1.heap.size ≤ g
  pl : ∀ d ∈ ats, plB d = true ∧ d < 18446744073709551616
  only : Only [] w wr
theorem O2.ol {w w1 wr : World} {ats : List Nat} {L A B m : List Tm} {s za zo : Value} {now k : Nat} {offs : List Bool} (h : O2 w w1 wr ats L A B m s za zo now k offs) : offs.length = ats.length := by
  have := h.so.len
  simpa using this
theorem info4 : (Try.prog.info? 4).map (fun i => (i.zero, i.size, i.bytes)) = some (some (.bool false), 1, 1) := by kernel_rfl
theorem make_off (N : Nat) (hN : N ≤ 100) (u : World) : (Instr.makeSlice 43 (.int .i64 (N : Int)) (.int .i64 (N : Int))).run Try.prog u = .ok (.slice (some ⟨u.heap.size, 0, none⟩) N N) (u.alloc (.cells (madeCells #[.bool false] N) 4)) := by
  obtain ⟨j4, si, sz0, sz1, sz2⟩ := info_parts info4
  have h := run_make (P := Try.prog) u 43 4 j4 (.bool false) Try.underlying43 si sz0 .i64 .i64 (N : Int) (N : Int) (by omega) (Int.le_refl _) (by rw [sz2]; omega) (by omega)
  rw [sz1, Int.toNat_natCast, Nat.mul_one] at h
  exact h
theorem made_off {w : World} {g N : Nat} (h : Blk w g 4 (madeCells #[.bool false] N)) (hN : N ≤ 100) : Sl w 4 1 (.slice (some ⟨g, 0, none⟩) N N) N ((List.replicate N false).map Value.bool) := by
  refine ⟨by simp, .inr ⟨g, 0, N, _, rfl, h, Nat.le_refl _, by unfold maxLen; omega, by rw [size_madeCells]; omega, ?_⟩⟩
  rw [toList_madeCells_one]
  simp
/-- It begins. -/
theorem O1.begin2 {w w1 wr w2 : World} {ats : List Nat} {l L : List Tm} {s z : Value} (h : O1 w w1 wr ats l L s z) (hN : ats.length ≤ 100) (hw : w1.heap.size ≤ wr.heap.size) (hw2 : w2 = wr.alloc (.cells (madeCells #[.bool false] ats.length) 4)) :
    O2 w w1 w2 ats L [] L l s z (.slice (some ⟨wr.heap.size, 0, none⟩) ats.length ats.length) 0 0 (List.replicate ats.length false) := by
  subst hw2
  have ho : Only [] wr (wr.alloc (.cells (madeCells #[.bool false] ats.length) 4)) := (Only.refl _ _).alloc _
  exact ⟨h.ck.only0 ho, h.rel, h.rel.srt, h.perm, rfl, Nat.zero_le _, fun x hx => (by cases hx), h.sl.only ho (fun _ _ => by simp), h.fresh, made_off (Blk.new _ _ _) hN, fun g hg => (by
    have : wr.heap.size = g := by simpa [Value.ownBlock] using hg
    omega), fun i hi => by simp, h.own, h.pl, h.only.trans ho⟩
/-- Go has been called: A1 of those that went off have been looked at, A2 not yet. -/
structure O3 (w w1 wr : World) (ats : List Nat) (L A A1 A2 B m : List Tm) (s za zo zi : Value) (tz : Nat) (offs : List Bool) : Prop where
  ck : CK wr w1.heap.size tz ats.length m s
  rel : Rel m B
  eq : L = A ++ (A1 ++ A2) ++ B
  le : ∀ x ∈ A ++ (A1 ++ A2), x.2 ≤ tz
  gt : ∀ x ∈ B, tz < x.2
  sl : Sl wr 29 1 za ats.length (ats.map fv)
  so : Sl wr 4 1 zo ats.length (offs.map Value.bool)
  fo : ∀ g, zo.ownBlock = some g → w1.heap.size ≤ g
  si : Sl wr 3 1 zi (A1 ++ A2).length (idc (A1 ++ A2))
  off : ∀ i (h : i < offs.length), offs[i] = decide (((i : Int) + 1) ∈ (A ++ A1).map (·.1))
  own : ∀ g, s.ownBlock = some g → w1.heap.size ≤ g
  only : Only [] w wr
theorem Sl.set1 {w : World} {e : TypeId} {g off n cap i : Nat} {xs : List Value} (h : Sl w e 1 (.slice (some ⟨g, off, none⟩) n cap) n xs) (hi : i < n) (u : Value) :
    Sl (w.setCell ⟨g, off + i, none⟩ u) e 1 (.slice (some ⟨g, off, none⟩) n cap) n (xs.set i u) := by
  refine ⟨by rw [List.length_set]; exact h.1, ?_⟩
  rcases h.2 with ⟨hv, _⟩ | ⟨g', off', cap', cur, hv, hh, h1, h2, h3, h4⟩
  · cases hv
  · injection hv with e1 _ e3
    injection e1 with e1
    injection e1 with e1 e2
    subst e1
    subst e2
    subst e3
    have hb : Blk w g e cur := hh
    refine .inr ⟨g, off, cap, cur.setIfInBounds (off + i) u, rfl, hb.set_ (off + i) u, h1, h2, by simp; omega, ?_⟩
    rw [Array.toList_setIfInBounds, ← h4, List.drop_set, if_neg (by omega), List.take_set]
    congr 1
    omega
theorem last_ok {C : List Tm} {x : Tm} (hx : x.2 ≤ 9218868437227405312) (hC : ∀ y ∈ C, tlt y x = true ∧ y.2 ≤ 9218868437227405312) :
    lastT C < 18446744073709551616 ∧ (ford x.2 (lastT C) == some .lt) = false ∧ (keyR x.2 = keyR (lastT C) → ¬ x.1 < lastI C) := by
  unfold lastT lastI
  cases hl : C.getLast? with
  | none =>
    refine ⟨by decide, ?_, fun h => ?_⟩
    · have hN : isN 13830554455654793216 := by unfold isN; decide
      have hr : rk 13830554455654793216 = -4607182418800017408 := by unfold rk; decide
      show (ford x.2 13830554455654793216 == some .lt) = false
      rw [ford_lt (rk_le hx).2 hN, (rk_le hx).1, hr]
      exact decide_eq_false (by omega)
    · exfalso
      have h2 : keyR 13830554455654793216 = 4616189618054758399 := by decide +kernel
      have h3 : keyR x.2 = keyR 13830554455654793216 := h
      rw [keyR_rung hx, h2] at h3
      omega
  | some y =>
    have hy := hC y (List.mem_of_getLast? hl)
    have h1 := tlt_iff.1 hy.1
    refine ⟨by have := hy.2; show y.2 < _; omega, ?_, fun h => ?_⟩
    · show (ford x.2 y.2 == some .lt) = false
      rw [ford_lt (rk_le hx).2 (rk_le hy.2).2, (rk_le hx).1, (rk_le hy.2).1]
      exact decide_eq_false (by omega)
    · have h3 : keyR x.2 = keyR y.2 := h
      rw [keyR_rung hx, keyR_rung hy.2] at h3
      show ¬ x.1 < y.1
      omega
section
variable {w w1 wr : World} {ats : List Nat} {L A A1 A2 B m : List Tm} {s za zo zi : Value} {tz : Nat} {offs : List Bool} {x : Tm}
/-- The next one to be looked at. -/
theorem O3.head (h : O3 w w1 wr ats L A A1 (x :: A2) B m s za zo zi tz offs) (hpm : L.Perm (tms ats 0)) (hs : Srt L) (ht : tz ≤ 9218868437227405312) :
    ∃ (i : Nat) (hi : i < ats.length), x.1 = (i : Int) + 1 ∧ x.2 = plV ats[i] ∧ offs[i]? = some false ∧ x.2 ≤ tz ∧ lastT (A ++ A1) < 18446744073709551616 ∧ (ford x.2 (lastT (A ++ A1)) == some .lt) = false ∧ (keyR x.2 = keyR (lastT (A ++ A1)) → ¬ x.1 < lastI (A ++ A1)) := by
  have he : L = (A ++ A1) ++ (x :: (A2 ++ B)) := by rw [h.eq]; simp
  have hx : x ∈ L := by rw [he]; simp
  have hle : x.2 ≤ tz := h.le x (by simp)
  have hpw : ∀ y ∈ A ++ A1, tlt y x = true := fun y hy => by
    have h1 := hs
    rw [he] at h1
    exact (List.pairwise_append.1 h1).2.2 y hy x (by simp)
  obtain ⟨i, hi, hxe⟩ := tms_mem.1 (hpm.mem_iff.1 hx)
  have hol : offs.length = ats.length := by have := h.so.len; simpa using this
  obtain ⟨h5, h6, h7⟩ := last_ok (C := A ++ A1) (x := x) (by omega) fun y hy => ⟨hpw y hy, by
    have := h.le y (by
      rcases List.mem_append.1 hy with hy | hy
      · exact List.mem_append_left _ hy
      · exact List.mem_append_right _ (List.mem_append_left _ hy))
    omega⟩
  refine ⟨i, hi, by rw [hxe]; simp, by rw [hxe], ?_, hle, h5, h6, h7⟩
  rw [List.getElem?_eq_getElem (by omega), h.off i (by omega), decide_eq_false]
  intro hm
  obtain ⟨y, hy, hy1⟩ := List.mem_map.1 hm
  have hyL : y ∈ L := by rw [he]; exact List.mem_append_left _ hy
  obtain ⟨j, hj, hye⟩ := tms_mem.1 (hpm.mem_iff.1 hyL)
  have hij : j = i := by rw [hye] at hy1; simp at hy1; omega
  subst hij
  have h1 := hpw y hy
  rw [hye, ← hxe, tlt_irr] at h1
  cases h1
theorem O3.only0 {w' : World} (h : O3 w w1 wr ats L A A1 A2 B m s za zo zi tz offs) (ho : Only [] wr w') : O3 w w1 w' ats L A A1 A2 B m s za zo zi tz offs :=
  ⟨h.ck.only0 ho, h.rel, h.eq, h.le, h.gt, h.sl.only ho (fun _ _ => by simp), h.so.only ho (fun _ _ => by simp), h.fo, h.si.only ho (fun _ _ => by simp), h.off, h.own, h.only.trans ho⟩
/-- It has been looked at. -/
theorem O3.next {w wr w1 : World} {go cap i : Nat} (h : O3 w w1 wr ats L A A1 (x :: A2) B m s za (.slice (some ⟨go, 0, none⟩) ats.length cap) zi tz offs) (hw : w.heap.size ≤ w1.heap.size) (hi : i < ats.length) (hx : x.1 = (i : Int) + 1) :
    O3 w w1 (wr.setCell ⟨go, 0 + i, none⟩ (.bool true)) ats L A (A1 ++ [x]) A2 B m s za (.slice (some ⟨go, 0, none⟩) ats.length cap) zi tz (offs.set i true) := by
  have hol : offs.length = ats.length := by have := h.so.len; simpa using this
  obtain ⟨cur, hb⟩ := sl_ty h.so (g := go) rfl
  have hk : ∀ g t c, Blk wr g t c → t ≠ 4 → (wr.setCell ⟨go, 0 + i, none⟩ (.bool true)).heap[g]? = wr.heap[g]? := fun g t c hg ht => Below.heap_setCell wr _ _ g (show g ≠ go from Blk.ne_ hg hb ht)
  have hap : A1 ++ [x] ++ A2 = A1 ++ x :: A2 := by simp
  refine ⟨h.ck.keepT fun g t c hg ht => hk g t c hg (by rcases ht with rfl | rfl <;> decide), h.rel, by rw [hap]; exact h.eq, by rw [hap]; exact h.le, h.gt, h.sl.keep fun g hz => ?_, ?_, h.fo, ?_, fun j hj => ?_, h.own, h.only.setCell (.inr (Nat.le_trans hw (h.fo go rfl))) _⟩
  · obtain ⟨c, hc⟩ := sl_ty h.sl hz
    exact hk g 29 c hc (by decide)
  · rw [List.map_set]
    exact Go.Proofs.Ytjnhplgdbdneiaa.Sl.set1 h.so hi _
  · rw [hap]
    exact h.si.keep fun g hz => (by
      obtain ⟨c, hc⟩ := sl_ty h.si hz
      exact hk g 3 c hc (by decide))
  · rw [List.getElem_set]
    have hj2 : j < offs.length := by simpa using hj
    by_cases e : i = j
    · subst e
      rw [if_pos rfl, decide_eq_true]
      rw [← hx]
      simp
    · rw [if_neg e, h.off j hj2]
      refine decide_eq_decide.2 ?_
      simp only [List.map_append, List.mem_append, List.map_cons, List.map_nil, List.mem_singleton]
      constructor
      · rintro (h1 | h1)
        · exact .inl h1
        · exact .inr (.inl h1)
      · rintro (h1 | h1 | h1)
        · exact .inl h1
        · exact .inr h1
        · omega
theorem O3.fin (h : O3 w w1 wr ats L A A1 [] B m s za zo zi tz offs) (hpm : L.Perm (tms ats 0)) (i : Nat) (hi : i < ats.length) : offs[i]? = some (decide (plV ats[i] ≤ tz)) := by
  have hol : offs.length = ats.length := by have := h.so.len; simpa using this
  rw [List.getElem?_eq_getElem (by omega), h.off i (by omega)]
  refine congrArg some (decide_eq_decide.2 ⟨fun hm => ?_, fun hle => ?_⟩)
  · obtain ⟨y, hy, hy1⟩ := List.mem_map.1 hm
    have hyL : y ∈ L := by
      rw [h.eq, List.append_nil]
      exact List.mem_append_left _ hy
    obtain ⟨j, hj, hye⟩ := tms_mem.1 (hpm.mem_iff.1 hyL)
    have hij : j = i := by rw [hye] at hy1; simp at hy1; omega
    subst hij
    have := h.le y (by rw [List.append_nil]; exact hy)
    rw [hye] at this
    exact this
  · have hm : ((((0 + i : Nat) : Int) + 1, plV ats[i]) : Tm) ∈ L := hpm.mem_iff.2 (tms_mem.2 ⟨i, hi, rfl⟩)
    rw [h.eq, List.append_nil] at hm
    rcases List.mem_append.1 hm with hm | hm
    · exact List.mem_map.2 ⟨_, hm, by simp⟩
    · have := h.gt _ hm
      exact absurd hle (Nat.not_le.2 this)
theorem O3.back {k : Nat} (h : O3 w w1 wr ats L A A1 [] B m s za zo zi tz offs) (hs : Srt L) (hpm : L.Perm (tms ats 0)) (hpl : ∀ d ∈ ats, plB d = true ∧ d < 18446744073709551616) (hfa : ∀ g, za.ownBlock = some g → w1.heap.size ≤ g) (ht : tz ≤ pw k) : O2 w w1 wr ats L (A ++ A1) B m s za zo tz k offs :=
  ⟨h.ck, h.rel, hs, hpm, by rw [h.eq, List.append_nil], ht, fun x hx => h.le x (by rw [List.append_nil]; exact hx), h.sl, hfa, h.so, h.fo, h.off, h.own, hpl, h.only⟩
end
/-- Go has been called. -/
theorem O2.gone {w w1 wr w2 : World} {ats : List Nat} {L A B m A' B' m' : List Tm} {s za zo s' zi : Value} {now k tz : Nat} {offs : List Bool} (h : O2 w w1 wr ats L A B m s za zo now k offs) (hw : w.heap.size ≤ w1.heap.size) (hto : now ≤ tz)
    (hg : GR wr w2 w1.heap.size tz ats.length B s A' B' m' s' zi) (hh : ∀ x ∈ B'.head?, tz < x.2) : O3 w w1 w2 ats L A [] A' B' m' s' za zo zi tz offs := by
  have hr := h.ck.blk.lt
  have hty : ∀ g t cur, Blk wr g t cur → t ≠ 60 → t ≠ 70 → w2.heap[g]? = wr.heap[g]? := fun g t cur hb h1 h2 => hg.gw.only.block g hb.lt fun hm => by
    rcases List.mem_cons.1 hm with e | hm
    · exact Blk.ne_ hb h.ck.blk h1 e
    · obtain ⟨cur2, hb2⟩ := sl_ty h.ck.sl (show s.ownBlock = some g by simpa using hm)
      exact Blk.ne_ hb hb2 h2 rfl
  have hsr : Srt B' := by
    have h1 := h.srt
    rw [h.eq, hg.eq] at h1
    exact (List.pairwise_append.1 (List.pairwise_append.1 h1).2.1).2.1
  refine ⟨hg.ck, hg.rel, by rw [h.eq, hg.eq]; simp, fun x hx => ?_, srt_head hsr hh, h.sl.keep fun g hz => ?_, h.so.keep fun g hz => ?_, h.fo, hg.sl, fun i hi => ?_, fun g hs => ?_, h.only.trans' hg.gw.only fun i hi => ?_⟩
  · rcases List.mem_append.1 hx with hx | hx
    · exact Nat.le_trans (h.le x hx) hto
    · exact hg.le x (by simpa using hx)
  · obtain ⟨cur, hb⟩ := sl_ty h.sl hz
    exact hty g 29 cur hb (by decide) (by decide)
  · obtain ⟨cur, hb⟩ := sl_ty h.so hz
    exact hty g 4 cur hb (by decide) (by decide)
  · rw [List.append_nil]
    exact h.off i hi
  · rcases hg.gw.own g hs with e | e
    · exact h.own g e
    · omega
  · right
    rcases List.mem_cons.1 hi with e | hi
    · omega
    · have := h.own i (by simpa using hi)
      omega
/-- The length of time is kept. -/
theorem O1.put {w w1 w3 w4 : World} {ats : List Nat} {l2 L2 : List Tm} {s2 z b2 : Value} {d : Nat} (hw : w.heap.size ≤ w1.heap.size) (hp : plB d = true) (hd : d < 18446744073709551616) (hpl : ∀ d ∈ ats, plB d = true ∧ d < 18446744073709551616) (hfr : ∀ g, z.ownBlock = some g → w1.heap.size ≤ g)
    (h : CK w3 w1.heap.size 0 ((ats ++ [d]).length : Nat) l2 s2 ∧ Rel l2 L2 ∧ L2.Perm (tms (ats ++ [d]) 0) ∧ Sl w3 29 1 z ats.length (ats.map fv) ∧ (∀ g, s2.ownBlock = some g → w1.heap.size ≤ g) ∧ Only [] w w3)
    (hS : Sl w4 29 1 b2 (ats.length + 1) (ats.map fv ++ [fv d])) (hg : (w3.alloc (.cells #[fv d] 29)).grownBy w4 z.ownBlock) (hat : b2.ownBlock = z.ownBlock ∨ b2.ownBlock = some (w3.heap.size + 1)) (h13 : w1.heap.size ≤ w3.heap.size) :
    O1 w w1 w4 (ats ++ [d]) l2 L2 s2 b2 := by
  obtain ⟨hc, hr, hpm, hsl, hown, ho⟩ := h
  have hk : ∀ g' t' cur, Blk w3 g' t' cur → t' ≠ 29 → w4.heap[g']? = w3.heap[g']? := fun g' t' cur hb ht => by
    have h1 := hg.block g' (hb.alloc (.cells #[fv d] 29)).lt fun e => by
      obtain ⟨cur2, hb2⟩ := sl_ty hsl e.symm
      exact Blk.ne_ hb hb2 ht rfl
    exact h1.trans (Below.heap_alloc w3 _ g' hb.lt)
  refine ⟨hc.keepT fun g' t' cur hb ht => hk g' t' cur hb (by rcases ht with rfl | rfl <;> decide), hr, hpm, ?_, fun g' hg' => ?_, hown, fun x hx => ?_, (ho.alloc _).grown hg fun k hk2 => .inr (Nat.le_trans hw (hfr k hk2))⟩
  · rw [List.length_append, List.map_append]
    exact hS
  · rcases hat with e | e
    · exact hfr g' (e ▸ hg')
    · rw [e] at hg'
      injection hg' with hg'
      omega
  · rcases List.mem_append.1 hx with hx | hx
    · exact hpl x hx
    · rw [List.mem_singleton.1 hx]
      exact ⟨hp, hd⟩
set_option maxRecDepth 1000000 in
set_option maxHeartbeats 12800000 in
theorem order4 (w : World) {ds : List Nat} {v : Value} (h : Row (fun s : Nat => .int .u64 s) w v ds) (hd : ∀ i (h : i < ds.length), ds[i] < 18446744073709551616) (u : Int) (hu : 0 ≤ u ∧ u < 18446744073709551616) :
    Calls Try.prog 4 #[v, .int .u64 u] w fun e w' => e = .returned (.bool true) ∧ Only [] w w' := by
  obtain ⟨j29, si, sz0, sz1, sz2⟩ := info_parts info29
  obtain ⟨a, cap, rfl, h1, h2, h3⟩ := h
  have hlm : ds.length ≤ maxLen := by omega
  unfold maxLen at hlm
  have HC := Lib.hid h3
  have HD := Lib.hid hd
  have e1 := e10
  obtain ⟨x, hx⟩ : ∃ x, x = u.toNat := ⟨_, rfl⟩
  have HXL := Lib.hid (show x < 18446744073709551616 by omega)
  have HQ := Lib.hid (begun7 w)
  clear h1 h2 h3 hd hu
  go_enter Try.func4, Try.ntmps4
  go_wp2_with fail
  refine HQ.out.mono ?_
  clear HQ
  rintro e w1 ⟨rfl, ho⟩
  have HO1 := Lib.hid ho
  clear ho
  cases hx1 : (FloatKind.f64.format.order u.toNat 4562254508917369340 == some .gt)
  · go_wp2
    exact bodyPost_ret (results_tmp rfl _ _ _) rfl ⟨rfl, HO1.out⟩
  cases hx2 : (FloatKind.f64.format.order u.toNat 4696837146684686336 == some .lt)
  · go_wp2
    exact bodyPost_ret (results_tmp rfl _ _ _) rfl ⟨rfl, HO1.out⟩
  by_cases h100 : (100 : Int) < (ds.length : Int)
  · go_wp2
    exact bodyPost_ret (results_tmp rfl _ _ _) rfl ⟨rfl, HO1.out⟩
  have HST := Lib.hid (step_ok HXL.out (hx ▸ hx1) (hx ▸ hx2))
  have H100 := Lib.hid (show ds.length ≤ 100 by omega)
  have HQ := Lib.hid (new8 w1 0 (by decide))
  go_wp2_with fail
  refine HQ.out.mono ?_
  clear HQ
  rintro e w2 (⟨hnz, rfl, hc, ho⟩ | ⟨hn, _⟩)
  case inr => exact absurd (by decide +kernel : plB 0 = true ∧ plV 0 ≠ 9218868437227405312) hn
  clear hnz
  rw [show plV 0 = 0 by decide +kernel] at hc
  have HC2 := Lib.hid hc
  have HO2 := Lib.hid (HO1.out.trans ho)
  have HW1 := Lib.hid HO1.out.size
  clear hc ho hx1 hx2 h100
  go_wp2
  go_loopw [8, 9] (fun z8 z9 wr => ∃ (k : Nat) (ats : List Nat) (l L : List Tm) (s : Value) (za : Option Addr) (zc : Nat), z8 = .slice za ats.length zc ∧ z9 = .int .i64 k ∧ Hid (k ≤ ds.length ∧ ats.length ≤ k) ∧ Hid (O1 w w1 wr ats l L s (.slice za ats.length zc))) (fun _ z9 _ => ds.length - (intOf z9).toNat)
  case atStart => exact ⟨0, [], [], [], .slice none 0 0, none, 0, rfl, rfl, Lib.hid ⟨Nat.zero_le _, Nat.le_refl _⟩, Lib.hid ⟨HC2.out, Rel.nil, List.Perm.refl _, Sl.nil _ _ _, fun g hg => (by cases hg), fun g hg => (by cases hg), fun d hd => (by cases hd), HO2.out⟩⟩
  case round =>
    obtain ⟨k, ats, l, L, s, za, zc, rfl, rfl, HK, HI⟩ := hrel
    by_cases hkl : k < ds.length
    case neg =>
      have hkz : ¬ (k : Int) < (ds.length : Int) := by omega
      have HKN := Lib.hid (show ats.length ≤ 100 by have := HK.out; have := H100.out; omega)
      have hmk := make_off ats.length HKN.out
      have HB2 := Lib.hid (HI.out.begin2 (w2 := wr.alloc (.cells (madeCells #[.bool false] ats.length) 4)) HKN.out (Nat.le_of_lt HI.out.ck.blk.lt) rfl)
      have HNA := Lib.hid (show ∀ (N : Nat), N = ats.length → True from fun _ _ => trivial)
      clear hkl
      go_wp2
      obtain ⟨wo, hwo⟩ : ∃ x : World, x = wr := ⟨_, rfl⟩
      subst hwo
      clear hmk HI HK HC HD hlm hkz
      go_loopw [14, 15, 16] (fun z14 z15 z16 wr => ∃ (k : Nat) (A B m : List Tm) (s : Value) (now : Nat) (offs : List Bool), z14 = fv (lastT A) ∧ z15 = iv (lastI A) ∧ z16 = .int .i64 k ∧ Hid (k ≤ 30) ∧ Hid (O2 w w1 wr ats L A B m s (.slice za ats.length zc) (.slice (some ⟨wo.heap.size, 0, none⟩) ats.length ats.length) now k offs)) (fun _ _ z16 _ => 30 - (intOf z16).toNat)
      case atStart => exact ⟨0, [], L, l, s, 0, _, rfl, rfl, rfl, Lib.hid (by omega), HB2⟩
      case round =>
        obtain ⟨k, A, B, m, s, now, offs, rfl, rfl, rfl, HK, HI⟩ := hrel
        by_cases hk30 : k < 30
        case neg =>
          have hk30z : ¬ (k : Int) < 30 := by omega
          go_wp2
          exact bodyPost_ret (results_tmp rfl _ _ _) rfl ⟨rfl, HI.out.only⟩
        have hk30z : (k : Int) < 30 := by omega
        have HK30 := Lib.hid hk30
        have HTO := Lib.hid (addW_pw (k := k) (by omega) HI.out.nle HST.out)
        have hpk := pw_le (k := k + 1) (by omega)
        have hpk2 : pw (k + 1) < 9218868437227405312 := by unfold pw; omega
        have hnI : now < 9218868437227405312 := by have := HI.out.nle; unfold pw at this; omega
        have hxI : x ≤ 9218868437227405312 := Nat.le_trans HST.out (by decide)
        have hadd := fun w => addW_run hnI hxI w
        have HGE := Lib.hid (addW_ge (now := now) (t := x) (by omega))
        obtain ⟨tz, hto⟩ : ∃ tz, addW now x = tz := ⟨_, rfl⟩
        rw [hto] at hadd HTO HGE
        have htI : tz < 9218868437227405312 := by have := HTO.out; omega
        have HTI := Lib.hid htI
        have hpl := plV_rung (Nat.le_of_lt htI)
        rw [hx] at hadd
        clear hx
        have HNW := Lib.hid (now_ck HI.out.ck)
        have HQ := Lib.hid (go12 wr (d := tz) HI.out.ck HI.out.rel hnI (by omega) (by rw [HI.out.rel.len]; have h1 := HI.out.perm.length_eq; rw [tms_len, HI.out.eq] at h1; simp at h1; have := HKN.out; omega))
        have HPL := Lib.hid hpl
        clear hpk hpk2 hnI hxI htI hpl hto hk30
        go_wp2_with fail
        refine HNW.out.mono ?_
        clear HNW
        rintro e w2 ⟨rfl, rfl⟩
        go_wp2_with fail
        refine HQ.out.mono ?_
        clear HQ
        intro e w3 hp
        unfold GoPost at hp
        rw [HPL.out.2, if_pos ⟨HPL.out.1, HGE.out, by have := HTI.out; omega⟩] at hp
        obtain ⟨A', B', m', s', zi, rfl, hgr, hh⟩ := hp
        have HSRT := Lib.hid HI.out.srt
        have HPRM := Lib.hid HI.out.perm
        have HPLL := Lib.hid HI.out.pl
        have HFA := Lib.hid HI.out.fa
        have H3 := Lib.hid (HI.out.gone HW1.out HGE.out hgr hh)
        obtain ⟨ia, ic, hzi, hsh⟩ := hgr.sl.shape
        clear hsh
        subst hzi
        have HNW := Lib.hid (now_ck hgr.ck)
        have hee : (FloatKind.f64.format.order tz tz != some .eq) = false := by
          have := ford_eq (rk_le (Nat.le_of_lt HTI.out)).2 (rk_le (Nat.le_of_lt HTI.out)).2
          rw [decide_eq_true rfl] at this
          show (!(ford tz tz == some .eq)) = false
          rw [this]
          rfl
        clear hgr hh HI hadd
        go_wp2_with fail
        refine HNW.out.mono ?_
        clear HNW
        rintro e w4 ⟨rfl, rfl⟩
        go_wp2
        obtain ⟨wq, hwq⟩ : ∃ x : World, x = w4 := ⟨_, rfl⟩
        subst hwq
        clear hee
        go_loopw [14, 15, 20] (fun z14 z15 z20 wr => ∃ (A1 A2 : List Tm) (offs : List Bool), z14 = fv (lastT (A ++ A1)) ∧ z15 = iv (lastI (A ++ A1)) ∧ z20 = .int .i64 A1.length ∧ Hid (A' = A1 ++ A2) ∧ Hid (O3 w w1 wr ats L A A1 A2 B' m' s' (.slice za ats.length zc) (.slice (some ⟨wo.heap.size, 0, none⟩) ats.length ats.length) (.slice ia A'.length ic) tz offs)) (fun _ _ z20 _ => A'.length - (intOf z20).toNat)
        case atStart => exact ⟨[], A', offs, by rw [List.append_nil], by rw [List.append_nil], rfl, Lib.hid rfl, H3⟩
        case round =>
          obtain ⟨A1, A2, offs, rfl, rfl, rfl, HE, HI⟩ := hrel
          cases A2 with
          | nil =>
            have hel : A'.length = A1.length := by rw [HE.out]; simp
            have hjz : ¬ (A1.length : Int) < (A'.length : Int) := by omega
            have HJ := Lib.hid (And.intro hel (show k + 1 ≤ 30 ∧ 30 - (k + 1) < 30 - k by have := HK30.out; omega))
            have HNIL : Hid (O3 w w1 wr ats L A A1 [] B' m' s' (.slice za ats.length zc) (.slice (some ⟨wo.heap.size, 0, none⟩) ats.length ats.length) (.slice ia A'.length ic) tz offs) := HI
            clear HI hel
            go_wp2
            obtain ⟨wp, hwp⟩ : ∃ x : World, x = wr := ⟨_, rfl⟩
            subst hwp
            clear hjz
            go_loopw [22] (fun z22 wr => ∃ (i : Nat), z22 = .int .i64 i ∧ Hid (i ≤ ats.length) ∧ Hid (O3 w w1 wr ats L A A1 [] B' m' s' (.slice za ats.length zc) (.slice (some ⟨wo.heap.size, 0, none⟩) ats.length ats.length) (.slice ia A'.length ic) tz offs)) (fun z22 _ => ats.length - (intOf z22).toNat)
            case atStart => exact ⟨0, rfl, Lib.hid (Nat.zero_le _), HNIL⟩
            case round =>
              obtain ⟨i, rfl, HIL, HI⟩ := hrel
              by_cases hil : i < ats.length
              case neg =>
                have hilz : ¬ (i : Int) < (ats.length : Int) := by omega
                have e7 : wrap64 ((k : Int) + 1) = ((k + 1 : Nat) : Int) := wrap_small (n := 30) (by decide) (Nat.lt_of_succ_le HJ.out.2.1)
                clear hil
                go_wp2
                go_roundw
                case measure => (try rw [e7]); exact meas HJ.out.2.2
                case rel => exact ⟨k + 1, A ++ A1, B', m', s', tz, offs, rfl, rfl, by first | rfl | rw [e7], Lib.hid HJ.out.2.1, Lib.hid (HI.out.back HSRT.out HPRM.out HPLL.out HFA.out HTO.out)⟩
              have hilz : (i : Int) < (ats.length : Int) := by omega
              obtain ⟨ga, oa, ca, he, _⟩ := HI.out.sl.form (by omega)
              injection he with he _ he2
              subst he
              subst he2
              have hfin := HI.out.fin HPRM.out i hil
              have y1 := HI.out.sl.cells_ i (fv ats[i]) (by simp [hil])
              have y2 := HI.out.so.cells_ i (.bool (decide (plV ats[i] ≤ tz))) (by rw [List.getElem?_map, hfin]; rfl)
              rw [Addr.add_lit] at y1 y2
              rw [Nat.zero_add] at y2
              have hp := HPLL.out ats[i] (List.getElem_mem hil)
              have hr := raw_lt (t := tz) hp.2 hp.1 (Nat.le_of_lt HTI.out)
              have e8 : wrap64 ((i : Int) + 1) = ((i + 1 : Nat) : Int) := wrap_small HKN.out hil
              have HM := Lib.hid (show i + 1 ≤ ats.length ∧ ats.length - (i + 1) < ats.length - i from ⟨hil, Nat.sub_lt_sub_left hil (Nat.lt_succ_self i)⟩)
              clear hfin hp
              generalize ats[i] = d at *
              clear hil
              generalize plV d = p at *
              rcases Nat.lt_trichotomy p tz with h | h | h
              · rw [decide_eq_true (Nat.le_of_lt h)] at y2
                have h1 : (FloatKind.f64.format.order d tz == some .lt) = true := hr.1.trans (decide_eq_true h)
                clear hr h
                go_wp2_with fail
                go_quiet (fail)
                go_wp2
                go_roundw
                case measure => (try rw [e8]); exact meas HM.out.2
                case rel => exact ⟨i + 1, by first | rfl | rw [e8], Lib.hid HM.out.1, Lib.hid (HI.out.only0 (by first | exact Only.refl _ _ | exact (Only.refl _ _).drewN _ | exact (Only.refl _ _).drew))⟩
              · rw [decide_eq_true (Nat.le_of_eq h)] at y2
                have h1 : (FloatKind.f64.format.order d tz == some .lt) = false := hr.1.trans (decide_eq_false (by omega))
                have h2 : (FloatKind.f64.format.order d tz == some .eq) = true := hr.2.trans (decide_eq_true h)
                clear hr h
                go_wp2_with fail
                go_quiet (fail)
                go_wp2
                go_roundw
                case measure => (try rw [e8]); exact meas HM.out.2
                case rel => exact ⟨i + 1, by first | rfl | rw [e8], Lib.hid HM.out.1, Lib.hid (HI.out.only0 (by first | exact Only.refl _ _ | exact (Only.refl _ _).drewN _ | exact (Only.refl _ _).drew))⟩
              · rw [decide_eq_false (by omega)] at y2
                have h1 : (FloatKind.f64.format.order d tz == some .lt) = false := hr.1.trans (decide_eq_false (by omega))
                have h2 : (FloatKind.f64.format.order d tz == some .eq) = false := hr.2.trans (decide_eq_false (by omega))
                clear hr h
                go_wp2_with fail
                go_quiet (fail)
                go_wp2
                go_roundw
                case measure => (try rw [e8]); exact meas HM.out.2
                case rel => exact ⟨i + 1, by first | rfl | rw [e8], Lib.hid HM.out.1, Lib.hid (HI.out.only0 (by first | exact Only.refl _ _ | exact (Only.refl _ _).drewN _ | exact (Only.refl _ _).drew))⟩
          | cons x A2 =>
            have hel : A'.length = A1.length + (A2.length + 1) := by rw [HE.out]; simp
            have hjz : (A1.length : Int) < (A'.length : Int) := by omega
            have hj : A1.length < A'.length := by omega
            obtain ⟨i, hi, hx1, hx2, hoi, hxt, hl1, hl2, hl3⟩ := HI.out.head HPRM.out HSRT.out (Nat.le_of_lt HTI.out)
            have hsi : Sl wr 3 1 (.slice ia A'.length ic) A'.length (idc A') := by
              have h9 := HI.out.si
              rw [← HE.out] at h9
              exact h9
            obtain ⟨gi, oi, ci, he, hfm⟩ := hsi.form (by omega)
            clear hfm
            injection he with he _ he2
            subst he
            subst he2
            have y0 := hsi.cells_ A1.length (iv x.1) (by rw [HE.out]; simp [idc])
            obtain ⟨ga, oa, ca, he, hfm⟩ := HI.out.sl.form (by omega)
            clear hfm
            injection he with he _ he2
            subst he
            subst he2
            have y1 := HI.out.sl.cells_ i (fv ats[i]) (by simp [hi])
            have y2 := HI.out.so.cells_ i (.bool false) (by rw [List.getElem?_map, hoi]; rfl)
            rw [Addr.add_lit] at y0 y1 y2
            rw [Nat.zero_add] at y2
            obtain ⟨i1, hi1⟩ : ∃ i1, i1 = i + 1 := ⟨_, rfl⟩
            have hx3 : x.1 = (i1 : Int) := by omega
            have e5 : wrap64 ((i1 : Int) - 1) = (i : Int) := wrap_to (by have := HKN.out; omega) (by omega)
            have hiz : (i : Int) < (ats.length : Int) := by omega
            have hp := HPLL.out ats[i] (List.getElem_mem hi)
            have HAD := Lib.hid (add_zero_raw hp.2 hp.1)
            have hadd0 : ∀ w, (binOp .add 29 (fv ats[i]) (fv 0)).run Try.prog w = .ok (fv x.2) w := fun w => by
              apply run_float_arith
              rw [hx2]
              exact HAD.out
            have h1 := ford_gt (rk_le (show x.2 ≤ 9218868437227405312 by have := HTI.out; omega)).2 (rk_le (Nat.le_of_lt HTI.out)).2
            rw [(rk_le (show x.2 ≤ 9218868437227405312 by have := HTI.out; omega)).1, (rk_le (Nat.le_of_lt HTI.out)).1, decide_eq_false (by omega)] at h1
            have HN3 := Lib.hid (HI.out.next (go := wo.heap.size) HW1.out hi hx1)
            obtain ⟨cur, hb⟩ := sl_ty HI.out.so (g := wo.heap.size) rfl
            obtain ⟨cu2, hb2⟩ := sl_ty hsi (g := gi) rfl
            have hne : gi ≠ wo.heap.size := Blk.ne_ hb2 hb (by decide)
            have hg5 : (idc (A1 ++ [x] ++ A2))[A1.length]? = some (iv x.1) := by simp [idc]
            rw [hx3] at hg5
            have h9 := HN3.out.si
            rw [show (A1 ++ [x] ++ A2).length = A'.length by rw [HE.out]; simp] at h9
            have y5 := h9.cells_ _ _ hg5
            clear h9
            clear hg5
            rw [Addr.add_lit, Nat.zero_add] at y5
            have hLl : A1.length ≤ 100 := by
              have h8 := HPRM.out.length_eq
              rw [tms_len, HI.out.eq] at h8
              simp at h8
              have := HKN.out
              omega
            have fz := hb.frozen
            have flt := hb.lt
            rw [hx3] at y0 hl3
            have HL3 := Lib.hid hl3
            have HQ := Lib.hid (same16 wr x.2 (lastT (A ++ A1)) (by have := HTI.out; omega) hl1)
            have e6 : wrap64 ((A1.length : Int) + 1) = ((A1.length + 1 : Nat) : Int) := wrap_to (by omega) (by omega)
            have HM6 := Lib.hid (Nat.sub_lt_sub_left hj (Nat.lt_succ_self A1.length))
            have HCU := Lib.hid (show Value.int .i64 ((A1.length + 1 : Nat) : Int) = .int .i64 ((A1 ++ [x]).length : Nat) from by rw [List.length_append]; rfl)
            have HCT := Lib.hid (show Value.int .i64 (wrap64 ((A1.length : Int) + 1)) = .int .i64 ((A1 ++ [x]).length : Nat) from by rw [e6]; exact HCU.out)
            have HLA := Lib.hid (show lastT (A ++ (A1 ++ [x])) = x.2 ∧ lastI (A ++ (A1 ++ [x])) = (i1 : Int) by
              rw [← List.append_assoc, ← hx3]
              unfold lastT lastI
              rw [List.getLast?_concat]
              exact ⟨rfl, rfl⟩)
            rw [Nat.zero_add] at HN3
            clear hx1 hx2 hx3 hi1 hoi hxt hl1 hl3 hb hb2 hne hsi hel hj HI
            generalize hlt9 : lastT (A ++ A1) = lt at *
            generalize lastI (A ++ A1) = li at *
            cases hsm : decide (keyR x.2 = keyR lt)
            · rw [hsm] at HQ
              clear hsm
              go_wp2_with fail
              refine HQ.out.mono ?_
              clear HQ
              rintro e w5 ⟨rfl, rfl⟩
              go_wp2
              generalize w5.setCell ⟨wo.heap.size, i, none⟩ (Value.bool true) = w6 at *
              refine Lex.wp_region_text (by kernel_rfl) (by kernel_rfl) ?_
              go_wp2
              refine Lex.sq_done (by rfl) ?_
              clear hadd0 HAD y0 y1 y2 y5 hp hjz hiz e5 hLl flt fz hk30z
              go_wp2
              go_roundw
              case measure => (try rw [e6]); exact meas HM6.out
              case rel => exact ⟨A1 ++ [x], A2, offs.set i true, by rw [HLA.out.1], by rw [HLA.out.2], by first | exact HCT.out | exact HCU.out, Lib.hid (by rw [HE.out]; simp), Lib.hid (HN3.out.only0 (Only.refl _ _).drew)⟩
            · rw [hsm] at HQ
              have hl4 := HL3.out (of_decide_eq_true hsm)
              clear hsm
              go_wp2_with fail
              refine HQ.out.mono ?_
              clear HQ
              rintro e w5 ⟨rfl, rfl⟩
              go_wp2
              generalize w5.setCell ⟨wo.heap.size, i, none⟩ (Value.bool true) = w6 at *
              refine Lex.wp_region_text (by kernel_rfl) (by kernel_rfl) ?_
              go_wp2
              refine Lex.sq_done (by rfl) ?_
              clear hadd0 HAD y0 y1 y2 y5 hp hjz hiz e5 hLl flt fz hk30z
              go_wp2
              go_roundw
              case measure => (try rw [e6]); exact meas HM6.out
              case rel => exact ⟨A1 ++ [x], A2, offs.set i true, by rw [HLA.out.1], by rw [HLA.out.2], by first | exact HCT.out | exact HCU.out, Lib.hid (by rw [HE.out]; simp), Lib.hid (HN3.out.only0 (Only.refl _ _).drew)⟩
    have hkz : (k : Int) < (ds.length : Int) := by omega
    have HKL := Lib.hid hkl
    obtain ⟨g, off, rfl, hg, hcc⟩ := HC.out (by omega)
    have x0 : wr.cell? ⟨g, off + k, none⟩ = some (.int .u64 ds[k]) := (HI.out.only.cell (p := ⟨g, off + k, none⟩) hg (by simp)).trans (hcc k hkl)
    have hdk := HD.out k hkl
    generalize ds[k] = d at *
    have HDK := Lib.hid hdk
    have e2 : wrap64 ((k : Int) + 1) = ((k + 1 : Nat) : Int) := wrap_to (by have := H100.out; omega) (by omega)
    have HQ := Lib.hid (after9 wr (d := d) HI.out.ck (by decide) hdk (by have := HK.out; have := H100.out; omega))
    have hz := pl_zero d
    have hgt := pl_gt d
    have HNK := Lib.hid (show k + 1 ≤ ds.length ∧ ds.length - (k + 1) < ds.length - k by omega)
    clear hkl hdk hcc
    cases hb : plB d
    · have h0 : ¬ d % 9223372036854775808 = 0 := fun e => by rw [plB_zero e] at hb; cases hb
      have hg2 := plB_pos h0
      rw [hb] at hg2
      rw [decide_eq_false h0] at hz
      have hg3 : (FloatKind.f64.format.order d 0 == some .gt) = false := hg2.symm
      have HB := Lib.hid hb
      clear hgt hg2 h0 hb
      go_wp2_with fail
      refine HQ.out.mono ?_
      clear HQ
      intro e w3 hp
      unfold AfterPost at hp
      rw [HB.out, if_neg (by simp)] at hp
      obtain ⟨rfl, rfl⟩ := hp
      go_wp2
      go_roundw
      case measure => (try rw [e2]); exact HNK.out.2
      case rel => exact ⟨k + 1, ats, l, L, s, za, zc, rfl, by first | rfl | rw [e2], Lib.hid (by have := HK.out; have := HNK.out; omega), HI⟩
    · have HB := Lib.hid hb
      have hcs : ((FloatKind.f64.format.order d 0 == some .gt) = true) ∨ ((FloatKind.f64.format.order d 0 == some .gt) = false ∧ (FloatKind.f64.format.order d 0 == some .eq) = true) := by
        by_cases h0 : d % 9223372036854775808 = 0
        · rw [decide_eq_true h0] at hz
          cases hgg : (FloatKind.f64.format.order d 0 == some .gt)
          · exact .inr ⟨rfl, hz⟩
          · exact .inl rfl
        · have hg2 := plB_pos h0
          rw [hb] at hg2
          exact .inl hg2.symm
      have HLN := Lib.hid (show ¬ 256 ≤ l.length by rw [HI.out.len]; have := HK.out; have := H100.out; omega)
      have HKN := Lib.hid (show ats.length ≤ 100 by have := HK.out; have := H100.out; omega)
      clear hgt hz hb
      rcases hcs with h5 | ⟨h5, h6⟩
      ·
        go_wp2_with fail
        refine HQ.out.mono ?_
        clear HQ
        intro e w3 hp
        unfold AfterPost at hp
        rw [HB.out, if_pos rfl, if_neg HLN.out] at hp
        obtain ⟨rfl, s2, hc, hg⟩ := hp
        have HW3 := Lib.hid (Nat.le_trans (Nat.le_of_lt HI.out.ck.blk.lt) hg.only.size)
        obtain ⟨L2, hpush⟩ := HI.out.push HW1.out HB.out HDK.out hc hg
        have HPU := Lib.hid hpush
        have HSL := Lib.hid hpush.2.2.2.1
        clear hc hg hpush x0
        go_wp2_with (at_builtin; refine wpList_append_sls rfl (.tmp 69) (.tmp 71) 42 rfl 29 j29 _ 1 8 Try.underlying42 si sz0 sz1 sz2 rfl (by decide) rfl (HSL.out.alloc _) rfl (sl_one29 (Blk.new _ _ _)) (by simp [Value.oneCell']) (by have := HKN.out; unfold maxLen; omega) (by have := HKN.out; omega) ?_)
        intro b2 w4 hS hg hat
        obtain ⟨ba, bc, hb2, _, _⟩ := hS.shape
        subst hb2
        have HO5 := Lib.hid (O1.put HW1.out HB.out HDK.out HI.out.pl HI.out.fresh HPU.out hS hg hat HW3.out)
        clear hS hg hat
        go_wp2
        go_roundw
        case measure => (try rw [e2]); exact HNK.out.2
        case rel => exact ⟨k + 1, ats ++ [d], _, L2, s2, ba, bc, by rw [List.length_append]; rfl, by first | rfl | rw [e2], Lib.hid (by have := HK.out; have := HNK.out; rw [List.length_append]; simp; omega), by rw [List.length_append]; exact HO5⟩
      ·
        go_wp2_with fail
        refine HQ.out.mono ?_
        clear HQ
        intro e w3 hp
        unfold AfterPost at hp
        rw [HB.out, if_pos rfl, if_neg HLN.out] at hp
        obtain ⟨rfl, s2, hc, hg⟩ := hp
        have HW3 := Lib.hid (Nat.le_trans (Nat.le_of_lt HI.out.ck.blk.lt) hg.only.size)
        obtain ⟨L2, hpush⟩ := HI.out.push HW1.out HB.out HDK.out hc hg
        have HPU := Lib.hid hpush
        have HSL := Lib.hid hpush.2.2.2.1
        clear hc hg hpush x0
        go_wp2_with (at_builtin; refine wpList_append_sls rfl (.tmp 69) (.tmp 71) 42 rfl 29 j29 _ 1 8 Try.underlying42 si sz0 sz1 sz2 rfl (by decide) rfl (HSL.out.alloc _) rfl (sl_one29 (Blk.new _ _ _)) (by simp [Value.oneCell']) (by have := HKN.out; unfold maxLen; omega) (by have := HKN.out; omega) ?_)
        intro b2 w4 hS hg hat
        obtain ⟨ba, bc, hb2, _, _⟩ := hS.shape
        subst hb2
        have HO5 := Lib.hid (O1.put HW1.out HB.out HDK.out HI.out.pl HI.out.fresh HPU.out hS hg hat HW3.out)
        clear hS hg hat
        go_wp2
        go_roundw
        case measure => (try rw [e2]); exact HNK.out.2
        case rel => exact ⟨k + 1, ats ++ [d], _, L2, s2, ba, bc, by rw [List.length_append]; rfl, by first | rfl | rw [e2], Lib.hid (by have := HK.out; have := HNK.out; rw [List.length_append]; simp; omega), by rw [List.length_append]; exact HO5⟩
end Go.Proofs.Ytjnhplgdbdneiaa
