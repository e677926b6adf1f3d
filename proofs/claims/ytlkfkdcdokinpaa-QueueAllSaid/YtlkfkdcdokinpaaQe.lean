import Derived.Test.YtlkfkdcdokinpaaQd
import Derived.Deep.LoopGhost
namespace Go.Proofs.Ytlkfkdcdokinpaa
open Go.RowKit Go.Fl

theorem sl_sl_ne {w : World} {e e' s s' n n' : Nat} {v v' : Value} {xs xs' : List Value} (h : Sl w e s v n xs) (h' : Sl w e' s' v' n' xs') (hne : e ≠ e') : ∀ g, v.ownBlock = some g → v'.ownBlock ≠ some g := by
  intro g hg hg'
  rcases h.2 with ⟨rfl, _⟩ | ⟨b, off, c, cur, rfl, hh, _⟩
  · cases hg
  · rcases h'.2 with ⟨rfl, _⟩ | ⟨b', off', c', cur', rfl, hh', _⟩
    · cases hg'
    · simp [Value.ownBlock] at hg hg'
      subst hg; subst hg'
      exact Blk.ne_ (t := e) (t' := e') hh hh' hne rfl
theorem ring_sl_ne {w : World} {l : Value} {f n : Nat} {held : List Item} {e s m : Nat} {v : Value} {xs : List Value} (h : RingIs w l f n held) (h' : Sl w e s v m xs) (hne : e ≠ 38) : ∀ g, l.ownBlock = some g → v.ownBlock ≠ some g := by
  intro g hg hg'
  rcases h.2 with ⟨rfl, _⟩ | ⟨r, L, cur, rfl, hb, _⟩
  · cases hg
  · rcases h'.2 with ⟨rfl, _⟩ | ⟨b', off', c', cur', rfl, hh', _⟩
    · cases hg'
    · simp [Value.ownBlock] at hg hg'
      subst hg; subst hg'
      exact Blk.ne_ (t := 38) (t' := e) hb hh' (Ne.symm hne) rfl
theorem not_own {o : Option Nat} {g : Nat} (h : o ≠ some g) : g ∉ o.toList := by cases o <;> simp_all [eq_comm]

def sum (l : List Item) : Int := (l.map (·.2)).sum
theorem sum_append (l : List Item) (x : Item) : sum (l ++ [x]) = sum l + x.2 := by simp [sum]
theorem sum_cons (l : List Item) (x : Item) : sum (x :: l) = x.2 + sum l := by simp [sum]
def hasRoom (cap bytes : Int) (held : List Item) (size : Int) : Bool := decide ((held.length : Int) < cap) && decide (size ≤ bytes - sum held)
/-- Who can comes in: their ids, who is held then, who stands in line then. -/
def come (cap bytes : Int) : List Item → List Item → List Int × List Item × List Item
  | held, [] => ([], held, [])
  | held, x :: line => if hasRoom cap bytes held x.2 then (x.1 :: (come cap bytes (held ++ [x]) line).1, (come cap bytes (held ++ [x]) line).2) else ([], held, x :: line)

def ints (l : List Int) : List Value := l.map (Value.int .i64)
theorem info2 : (Try.prog.info? 2).map (fun i => (i.zero, i.size, i.bytes)) = some (some (.int .i64 0), 1, 8) := by kernel_rfl

/-- What may be of items: sizes. -/
def Sized (l : List Item) : Prop := ∀ x ∈ l, 0 ≤ x.2 ∧ x.2 ≤ 16777216

structure Held (cap bytes : Int) (held : List Item) : Prop where
  len : (held.length : Int) ≤ cap
  cap1 : cap ≤ 1024
  byt : sum held ≤ bytes
  byt1 : bytes ≤ 16777216
  sized : Sized held
theorem sum_nonneg {l : List Item} (h : Sized l) : 0 ≤ sum l := by
  induction l with
  | nil => simp [sum]
  | cons x l ih => rw [sum_cons]; have := (h x (List.mem_cons_self ..)).1; have := ih fun y hy => h y (List.mem_cons_of_mem _ hy); omega
theorem Held.more {cap bytes : Int} {held : List Item} {x : Item} (h : Held cap bytes held) (hx : 0 ≤ x.2 ∧ x.2 ≤ 16777216) (hr : hasRoom cap bytes held x.2 = true) : Held cap bytes (held ++ [x]) := by
  simp only [hasRoom, Bool.and_eq_true, decide_eq_true_eq] at hr
  refine ⟨by simp; omega, h.cap1, by rw [sum_append]; omega, h.byt1, fun y hy => ?_⟩
  rcases List.mem_append.1 hy with hy | hy
  · exact h.sized y hy
  · simp at hy; subst hy; exact hx

/-- The relation of 'enter's loop. -/
structure Ent (w : World) (q : Nat) (cap bytes : Int) (l lv ids : Value) (held line : List Item) (v : Value) (wr : World) (l1 lv1 : Value) (f1 : Nat) (out : List Int) (held1 line1 : List Item) : Prop where
  step : come cap bytes held line = (out ++ (come cap bytes held1 line1).1, (come cap bytes held1 line1).2)
  okh : Held cap bytes held1
  okl : Sized line1
  B : QB wr q cap bytes (sum held1) l1 f1 held1.length lv1 ids
  R : RingIs wr l1 f1 held1.length held1
  S : Sl wr 38 2 lv1 line1.length (cells line1)
  O : Sl wr 2 1 v out.length (ints out)
  fresh : ∀ g, v.ownBlock = some g → w.heap.size ≤ g
  only : Only (q :: l.ownBlock.toList) w wr
  ren : Renewed w l l1
  same : lv1.ownBlock = lv.ownBlock
  len : out.length + line1.length = line.length

def EntE (w : World) (q : Nat) (cap bytes : Int) (l lv ids : Value) (held line : List Item) (k : Nat) (v : Value) (wr : World) : Prop :=
  ∃ l1 lv1 f1 out held1 line1, k = line1.length ∧ Ent w q cap bytes l lv ids held line v wr l1 lv1 f1 out held1 line1

/-- What 'enter' leaves. -/
structure Entered (w : World) (q : Nat) (cap bytes : Int) (l lv ids : Value) (r : List Int × List Item × List Item) (v : Value) (w' : World) (l' lv' : Value) (f' : Nat) : Prop where
  okh : Held cap bytes r.2.1
  okl : Sized r.2.2
  B : QB w' q cap bytes (sum r.2.1) l' f' r.2.1.length lv' ids
  R : RingIs w' l' f' r.2.1.length r.2.1
  S : Sl w' 38 2 lv' r.2.2.length (cells r.2.2)
  O : Sl w' 2 1 v r.1.length (ints r.1)
  fresh : ∀ g, v.ownBlock = some g → w.heap.size ≤ g
  only : Only (q :: l.ownBlock.toList) w w'
  ren : Renewed w l l'
  same : lv'.ownBlock = lv.ownBlock
def EnteredE (w : World) (q : Nat) (cap bytes : Int) (l lv ids : Value) (r : List Int × List Item × List Item) (e : Ending) (w' : World) : Prop :=
  ∃ v, e = .returned v ∧ ∃ l' lv' f', Entered w q cap bytes l lv ids r v w' l' lv' f'

theorem ent_end {w : World} {q : Nat} {cap bytes : Int} {l lv ids : Value} {held line : List Item} {v : Value} {wr : World} {l1 lv1 : Value} {f1 : Nat} {out : List Int} {held1 line1 : List Item} (h : Ent w q cap bytes l lv ids held line v wr l1 lv1 f1 out held1 line1)
    {w2 : World} (ho : Only [] wr w2) (hs : come cap bytes held1 line1 = ([], held1, line1)) : Entered w q cap bytes l lv ids (come cap bytes held line) v w2 l1 lv1 f1 := by
  rw [h.step, hs, List.append_nil]
  exact ⟨h.okh, h.okl, h.B.only ho (by simp), h.R.only ho (by simp), h.S.only ho (by simp), h.O.only ho (by simp), h.fresh, h.only.trans' ho (by simp), h.ren, h.same⟩

theorem ent_step {w : World} {q : Nat} {cap bytes : Int} {l lv ids : Value} {held line : List Item} {v : Value} {wr : World} {l1 lv1 : Value} {f1 : Nat} {out : List Int} {held1 line2 : List Item} {x : Item} (h : Ent w q cap bytes l lv ids held line v wr l1 lv1 f1 out held1 (x :: line2))
    (hr : hasRoom cap bytes held1 x.2 = true) {w3 : World} {v2 l3 lv3 lv' : Value} {f3 : Nat} (hB : QB w3 q cap bytes (sum held1 + x.2) l3 f3 (held1.length + 1 : Nat) lv3 ids) (hR : RingIs w3 l3 f3 (held1.length + 1) (held1 ++ [x])) (hS : Sl w3 38 2 lv' line2.length (cells line2))
    (hsame : lv'.ownBlock = lv1.ownBlock) (hO : Sl w3 2 1 v2 (out.length + 1) (ints out ++ [.int .i64 x.1])) (hF : ∀ g, v2.ownBlock = some g → w.heap.size ≤ g) (hW : Only (q :: l.ownBlock.toList) w w3) (hren : Renewed w l l3) :
    Ent w q cap bytes l lv ids held line v2 (w3.setCell ⟨q, 6, none⟩ lv') l3 lv' f3 (out ++ [x.1]) (held1 ++ [x]) line2 := by
  have hx := h.okl x (List.mem_cons_self ..)
  refine ⟨?_, h.okh.more hx hr, fun y hy => h.okl y (List.mem_cons_of_mem _ hy), ?_, ?_, ?_, ?_, hF, hW.setCell (.inl (by simp)) _, hren, hsame.trans h.same, ?_⟩
  · rw [h.step]; simp [come, hr]
  · have e := hB.set_ 6 lv'
    simpa [QB, sum_append] using e
  · have := hR.keep (w' := w3.setCell ⟨q, 6, none⟩ lv') fun g hg => Below.heap_setCell w3 ⟨q, 6, none⟩ _ g (fun h => ring_ne hB hR (hg.trans (congrArg some h)))
    simpa using this
  · exact hS.far (sl_ne hB hS (by decide)) _
  · have := hO.far (p := ⟨q, 6, none⟩) (sl_ne hB hO (by decide)) lv'
    simpa [ints] using this
  · have := h.len; simp at *; omega

set_option maxHeartbeats 1600000 in
theorem enter_ok {q : Nat} {cap bytes : Int} {l lv ids : Value} {f : Nat} {held line : List Item} (w : World) (hB : QB w q cap bytes (sum held) l f held.length lv ids) (hR : RingIs w l f held.length held) (hS : Sl w 38 2 lv line.length (cells line))
    (hsep : ∀ g, l.ownBlock = some g → lv.ownBlock ≠ some g) (okh : Held cap bytes held) (okl : Sized line) (hll : line.length ≤ 1100) :
    Calls Try.prog 28 #[.pointer (some ⟨q, 0, none⟩)] w (EnteredE w q cap bytes l lv ids (come cap bytes held line)) := by
  obtain ⟨j0, hi, hz0, hz1, hz2⟩ := info_parts info2
  have H0 : EntE w q cap bytes l lv ids held line line.length (.slice none 0 0) w :=
    ⟨l, lv, f, [], held, line, rfl, ⟨rfl, okh, okl, hB, hR, hS, Sl.nil _ _ _, fun g hg => by simp [Value.ownBlock] at hg, Only.refl _ _, .inl rfl, rfl, by simp⟩⟩
  have HSEP := Lib.hid hsep
  have HLV := Lib.hid hS.lt
  have HLR := Lib.hid hR.lt
  have HLL := Lib.hid hll
  clear hB hR hS okh okl hsep hll
  go_enter Try.func28, Try.ntmps28
  go_wp2
  go_loopg [3] line.length (fun k v wr => EntE w q cap bytes l lv ids held line k v wr)
  case atStart => exact H0
  case round =>
    clear H0
    obtain ⟨l1, lv1, f1, out, held1, line1, hk, hE⟩ := hrel
    obtain ⟨hc, hfz, hlt⟩ := hE.B.facts
    obtain ⟨a, c, hlv, hlc, hnone⟩ := hE.S.shape
    cases line1 with
    | nil =>
      have HE := Lib.hid hE
      have HLVF := Lib.hid hlv
      simp only [List.length_nil] at *
      subst hlv
      clear hE hnone
      go_wp2
      go_ret
      exact ⟨_, rfl, l1, _, f1, ent_end HE.out (Only.refl _ _) (by simp [come])⟩
    | cons x line2 =>
      obtain ⟨g, off, cp, hlv, hg, hle, _, hcell, hfr⟩ := hE.S.form (by simp)
      have c0 : wr.cell? ⟨g, off, none⟩ = some (.int .i64 x.1) := hcell 0 (by simp)
      have c1 : wr.cell? ⟨g, off + 1, none⟩ = some (.int .i64 x.2) := hcell 1 (by simp; omega)
      have hlen1 : 0 < ((line2.length + 1 : Nat) : Int) := by omega
      subst hlv
      have HC : Calls Try.prog 24 #[.pointer (some ⟨q, 0, none⟩), .agg #[.int .i64 x.1, .int .i64 x.2]] wr fun e w' => e = .returned (.bool (hasRoom cap bytes held1 x.2)) ∧ Only [] wr w' :=
        room_ok x wr hE.B (sum_nonneg hE.okh.sized) hE.okh.byt hE.okh.byt1
      have HE := Lib.hid hE
      simp only [List.length_cons] at *
      clear hE hcell hnone hlc
      cases hr : hasRoom cap bytes held1 x.2 with
      | false =>
        rw [hr] at HC
        have HC := Lib.hid HC
        have HR := Lib.hid hr
        clear hr
        go_wp2_with fail
        refine HC.out.mono ?_
        rintro e w1 ⟨rfl, ho1⟩
        have HO1 := Lib.hid ho1
        clear ho1
        go_wp2
        go_ret
        exact ⟨_, rfl, l1, _, f1, ent_end HE.out HO1.out (by simp [come, HR.out])⟩
      | true =>
        rw [hr] at HC
        have HC := Lib.hid HC
        have HR := Lib.hid hr
        clear hr
        go_wp2_with fail
        refine HC.out.mono ?_
        rintro e w1 ⟨rfl, ho1⟩
        have hB1 := HE.out.B.only ho1 (by simp)
        have hS1 := HE.out.S.only ho1 (by simp)
        have hR1 := HE.out.R.only ho1 (by simp)
        have HOut1 := Lib.hid (HE.out.O.only ho1 (by simp))
        obtain ⟨hc, hfz, hlt1⟩ := hB1.facts
        have d0 : w1.cell? ⟨g, off, none⟩ = some (.int .i64 x.1) := (ho1.cell (p := ⟨g, off, none⟩) hg (by simp)).trans c0
        have d1 : w1.cell? ⟨g, off + 1, none⟩ = some (.int .i64 x.2) := (ho1.cell (p := ⟨g, off + 1, none⟩) hg (by simp)).trans c1
        have hg1 : g < w1.heap.size := Nat.lt_of_lt_of_le hg ho1.size
        have HB1 := Lib.hid hB1
        have HS1 := Lib.hid hS1
        have HR1 := Lib.hid hR1
        have HO1 := Lib.hid ho1
        clear hB1 hS1 hR1 ho1 c0 c1
        go_wp2_with (at_builtin; refine wpList_append_one rfl (.tmp 20) (.tmp 28) 32 rfl 2 j0 _ 1 8 Try.underlying32 hi hz0 hz1 hz2 rfl (by decide) rfl (HOut1.out.alloc _) rfl (Blk.new _ _ _) rfl (by simp [Value.oneCell']) (by have := HE.out.len; have := HLL.out; unfold maxLen; omega) (by have := HE.out.len; have := HLL.out; omega) ?_)
        intro v2 w2 hO2 hg2 hat2
        have o12 : Only u3.ownBlock.toList w1 w2 := ((Only.refl _ _).alloc _).grown hg2 (fun k hk => .inl (by simp [hk]))
        have hB2 := HB1.out.only o12 (not_own (sl_ne HB1.out HOut1.out (by decide)))
        have hR2 := HR1.out.only o12 (fun k hk => not_own (ring_sl_ne HR1.out HOut1.out (by decide) k hk))
        have hS2 := HS1.out.only o12 (fun k hk => not_own (sl_sl_ne HS1.out HOut1.out (by decide) k hk))
        have hgu : g ∉ u3.ownBlock.toList := not_own (sl_sl_ne HS1.out HOut1.out (by decide) g rfl)
        have e0 : w2.cell? ⟨g, off, none⟩ = some (.int .i64 x.1) := (o12.cell (p := ⟨g, off, none⟩) hg1 hgu).trans d0
        have e1 : w2.cell? ⟨g, off + 1, none⟩ = some (.int .i64 x.2) := (o12.cell (p := ⟨g, off + 1, none⟩) hg1 hgu).trans d1
        have hg2' : g < w2.heap.size := Nat.lt_of_lt_of_le hg1 o12.size
        have hx := HE.out.okl x (List.mem_cons_self ..)
        have hlg : l1.ownBlock ≠ some g := by
          intro h
          have hsame := HE.out.same
          rcases HE.out.ren with h1 | h1
          · exact HSEP.out g (h1 ▸ h) hsame.symm
          · have := h1 g h
            have := HLV.out g hsame.symm
            omega
        have HC2 := Lib.hid (hold_ok x w2 hB2 hR2 (by have := HE.out.okh.len; have := HE.out.okh.cap1; omega) (sum_nonneg HE.out.okh.sized) (Int.le_trans HE.out.okh.byt HE.out.okh.byt1) hx.1 hx.2)
        have HO2 := Lib.hid hO2
        have HS2 := Lib.hid hS2
        have HQG := Lib.hid (sl_ne hB2 hS2 (by decide))
        obtain ⟨hc, hfz, hlt2⟩ := hB2.facts
        have HF2 : Hid (∀ k, v2.ownBlock = some k → w.heap.size ≤ k) := Lib.hid (fun k hk => by
          rcases hat2 with h | h
          · exact HE.out.fresh k (h ▸ hk)
          · rw [h] at hk
            have h1 := HO1.out.size
            have h2 := HE.out.only.size
            simp only [Option.some.injEq] at hk
            subst hk
            simp
            omega)
        have HRO := Lib.hid (ring_sl_ne hR2 hO2 (by decide))
        have HQO := Lib.hid (sl_ne hB2 hO2 (by decide))
        have HW2 := Lib.hid ((HE.out.only.trans' HO1.out (by simp)).trans' o12 (fun i hi => .inr (HE.out.fresh i (by simpa using hi))))
        clear hB2 hR2 hS2 hO2 hg2 hat2 o12 hgu d0 d1 hx
        go_wp2_with fail
        refine HC2.out.mono ?_
        rintro e w3 ⟨rfl, l3, f3, hB3, hR3, hO3, hN3⟩
        have hS3 := HS2.out.only hO3 (fun k hk => by
          simp [Value.ownBlock] at hk
          subst hk
          intro h
          rcases List.mem_cons.1 h with h | h
          · exact HQG.out (congrArg some h)
          · exact not_own hlg h)
        have hOut3 := HO2.out.only hO3 (fun k hk h => by
          rcases List.mem_cons.1 h with h | h
          · subst h; exact HQO.out hk
          · exact not_own (fun h2 => HRO.out k h2 hk) h)
        obtain ⟨hc, hfz, hlt3⟩ := hB3.facts
        have HB3 := Lib.hid hB3
        have HR3 := Lib.hid hR3
        have HS3 := Lib.hid hS3
        have HOut3 := Lib.hid hOut3
        have HN3 := Lib.hid hN3
        have HO3 := Lib.hid hO3
        clear hB3 hR3 hS3 hOut3 hN3 hO3 e0 e1
        have HRN : Hid (Renewed w l l3) := Lib.hid (by
          rcases HN3.out with h1 | h1
          · rcases HE.out.ren with h2 | h2
            · exact .inl (h1.trans h2)
            · exact .inr fun k hk => h2 k (h1 ▸ hk)
          · exact .inr fun k hk => Nat.le_trans (HW2.out.size) (h1 k hk))
        have HW3 : Hid (Only (q :: l.ownBlock.toList) w w3) := Lib.hid (HW2.out.trans' HO3.out (fun i hi => by
          rcases List.mem_cons.1 hi with rfl | hi
          · exact .inl (by simp)
          · rcases HE.out.ren with h2 | h2
            · exact .inl (by rw [← h2]; exact List.mem_cons_of_mem _ hi)
            · exact .inr (h2 i (by simpa using hi))))
        have HCUT := Lib.hid (HS3.out.cut (k := 1) (by omega))
        by_cases hc1 : c = 1
        all_goals
          go_wp2
          go_roundg line2.length
          case measure => omega
          case rel =>
            refine ⟨l3, _, f3, out ++ [x.1], held1 ++ [x], line2, rfl, ent_step HE.out HR.out HB3.out HR3.out ?_ rfl (by simpa using HOut3.out) HF2.out HW3.out HRN.out⟩
            have := HCUT.out
            simpa [hc1, Addr.add, cells] using this
end Go.Proofs.Ytlkfkdcdokinpaa
