/-
  ValueReads: what is read, the book at the start and at the end, the argument; the walk.
-/
import Derived.Test.YtffdfegelgpniaaZCi
set_option linter.unusedSimpArgs false
set_option linter.unusedVariables false
set_option linter.unusedSimpArgs false
set_option linter.unusedVariables false
namespace Go.Proofs.Ytffdfegelgpniaa
open Go.ChangeShapes Go.Fl Go.RowKit Go.WideShapes

/-- What a read answers: the value, where, what failed. -/
def rdV (bs : List Nat) : V × Int × Int := match pread bs with
  | .bad p c => (.mk 0 0 0 ⟨#[]⟩ [], p, c)
  | .ok v q _ => (v, q, 0)
theorem read_any {w w' : World} {bs : List Nat} {e : Ending} (h : ReadPost w (pread bs) e w') :
    ∃ cs S, e = .returned (.tuple #[.agg cs.toArray, iv (rdV bs).2.1, iv (rdV bs).2.2]) ∧ VO w' (rdV bs).1 cs S ∧ S.Nodup ∧ (∀ g ∈ S, w.heap.size ≤ g) ∧ Only [] w w' := by
  unfold rdV
  unfold ReadPost at h
  cases hr : pread bs with
  | bad p c =>
    rw [hr] at h
    obtain ⟨rfl, ho⟩ := h
    exact ⟨zeroV, [], rfl, VO.plain (by decide) (by decide) (by omega) (Nat.zero_le _), List.nodup_nil, (fun g hg => by cases hg), ho⟩
  | ok v q rm =>
    rw [hr] at h
    obtain ⟨cs, S, rfl, hvo, hnd, hge, ho⟩ := h
    exact ⟨cs, S, rfl, hvo, hnd, hge, ho⟩
theorem read_small {bs : List Nat} (hb : ∀ c ∈ bs, c < 256) : (rdV bs).1.small := by
  unfold rdV
  cases hr : pread bs with
  | bad p c => exact ⟨by simp, trivial⟩
  | ok v q rm =>
    obtain ⟨_, x, hx, _⟩ := read_back hb hr
    exact item_small hx
theorem BK.begin (W : World) : BK W.heap.size (W.alloc (.cells #[.slice none 0 0] 27)) W.heap.size (.slice none 0 0) [] :=
  ⟨Nat.le_refl _, Blk.new _ _ _, Sl.nil _ _ _, (fun g hg => by cases hg), fun j h => absurd h (Nat.not_lt_zero _), fun i j hi => absurd hi (Nat.not_lt_zero _)⟩
theorem BK.ek {W w : World} {r gb ob cb : Nat} {ents : List Value} (h : BK W.heap.size w r (.slice (some ⟨gb, ob, none⟩) ents.length cb) ents) (ho : Only [] W w) : EK ⟨W, w⟩ w r gb ob cb ents (P1 0) :=
  ⟨h.rge, h.sge gb rfl, h.blk, h.sl, fun j hj => by
    obtain ⟨g, off, n, cap, xs, h1, h2, h3, h4⟩ := h.ent j hj
    exact ⟨g, off, n, cap, xs, h1, h2, by omega, h4, fun h => absurd h (Nat.not_lt_zero _), fun _ => h3⟩, h.apart, OT.begin ho⟩
set_option maxRecDepth 100000 in
set_option maxHeartbeats 3200000 in
theorem apart_nil {W w : World} {r : Nat} (h : Blk w r 27 #[.slice none 0 0]) (ho : Only [] W w) : Calls Try.prog 17 #[.pointer (some ⟨r, 0, none⟩)] w fun e w' => e = .returned (.bool true) ∧ OT ⟨W, w⟩ w' := by
  have r0 := h.cell 0
  simp at r0
  go_enter Try.func17, Try.ntmps17
  go_wp2
  go_loopw [3] (fun z wr => z = .int .i64 0 ∧ wr = w) (fun _ _ => 0)
  case atStart => exact ⟨rfl, rfl⟩
  case round =>
    obtain ⟨rfl, rfl⟩ := hrel
    go_wp2
    go_loopw [6] (fun z wr2 => z = .int .i64 0 ∧ wr2 = wr) (fun _ _ => 0)
    case atStart => exact ⟨rfl, rfl⟩
    case round =>
      obtain ⟨rfl, rfl⟩ := hrel
      go_wp2
      exact bodyPost_ret (results_tmp rfl _ _ _) rfl ⟨rfl, OT.begin ho⟩
theorem Apart_ty {W w : World} {r : Nat} {bsl : Value} {ents : List Value} (h : BK W.heap.size w r bsl ents) (ho : Only [] W w) : Calls Try.prog 17 #[.pointer (some ⟨r, 0, none⟩)] w fun e w' => e = .returned (.bool true) ∧ OT ⟨W, w⟩ w' := by
  have hs := h.sl
  rcases hs.2 with ⟨rfl, h0⟩ | ⟨gb, ob, cb, cur, rfl, _⟩
  · exact apart_nil h.blk ho
  · exact apart_ok (h.ek ho)
theorem Apart_ok {W w : World} {r : Nat} {bsl : Value} {ents : List Value} (h : BK W.heap.size w r bsl ents) (ho : Only [] W w) : Calls Try.prog 17 #[.pointer (some ⟨r, 0, none⟩)] w fun e w' => e = .returned (.bool true) ∧ Only [] W w' :=
  (Apart_ty h ho).mono fun _ _ hp => ⟨hp.1, hp.2.only⟩
/-- A slice of slices of bytes. -/
def BBV (w : World) (F : Nat → Prop) (ls : List (List Nat)) (s : Value) : Prop :=
  ∃ a cap, ∃ vs : Nat → Value, s = .slice a ls.length cap ∧ ls.length ≤ cap ∧ cap ≤ maxLen ∧ (0 < ls.length → ∃ g off, a = some ⟨g, off, none⟩ ∧ g < w.heap.size ∧ ∀ j, j < ls.length → w.cell? ⟨g, off + j, none⟩ = some (vs j)) ∧
    ∀ j (h : j < ls.length), BytesV w F ls[j] (vs j)
section
variable {H : Type} {enc : TypeId × Value → H} {w : World}
set_option maxRecDepth 100000 in
theorem trod_bytes {fuel : Nat} {cs : List Value} {x : DataW H × List MemPlace} (h : DataW.trod enc Try.prog w 0 (fun _ => true) true fuel 28 cs = some x) : ∃ bs v, cs = [v] ∧ BytesV w (· < w.heap.size) bs v := by
  have hc5 : Try.prog.cellsOf 5 = 1 := by kernel_rfl
  rcases DataW.trod_slice Try.underlying28 h with ⟨e, _⟩ | ⟨a, len, cap, elems, rest, m, hm, e, _, _, hl, hcap, hel, hall, _, _⟩
  · exact ⟨[], _, e, none, 0, rfl, Nat.le_refl _, Nat.zero_le _, (fun c hc => by cases hc), fun h => absurd h (Nat.not_lt_zero _)⟩
  · have hone : ∀ j, j < len → ∃ c : Nat, c < 256 ∧ w.cells? 0 (a.add (j * 1)) 1 = some [bv c] := fun j hj => by
      have h5 := hall j hj
      rw [hc5] at h5
      have h6 : elems[j]? = some (elems[j]'(by omega)) := List.getElem?_eq_getElem _
      rw [h6] at h5
      obtain ⟨cs', h7, h8⟩ := Option.bind_eq_some_iff.1 h5
      obtain ⟨n, h1, _, h3⟩ := DataW.trod_int Try.underlying5 h8
      simp only [Lit.wf, IntKind.min, IntKind.max, IntKind.bits, IntKind.signed] at h3
      simp at h3
      refine ⟨n.toNat, by omega, ?_⟩
      rw [h7, h1]
      congr 2
      show Value.int .u8 n = .int .u8 ((n.toNat : Nat) : Int)
      congr 1
      omega
    obtain ⟨l, hll, hp⟩ := list_of (p := fun j c => c < 256 ∧ w.cells? 0 (a.add (j * 1)) 1 = some [bv c]) len hone
    subst hll
    have hcell : ∀ j (h : j < l.length), w.cell? (a.add j) = some (bv l[j]) := fun j h => by
      have h7 := (hp j h).2
      obtain ⟨_, _, hat⟩ := World.cells?_some h7
      have := hat 0 (by omega)
      simpa [Addr.add] using this
    refine ⟨l, _, e, some a, cap, rfl, hl, hcap, fun c hc => ?_, fun h0 => ?_⟩
    · obtain ⟨i, hi, rfl⟩ := List.getElem_of_mem hc
      exact (hp i hi).1
    · have h7 := hcell 0 h0
      have hsp : a.spot = none := by simpa [Addr.add] using spot_none h7
      have hlt : a.block < w.heap.size := by simpa [Addr.add] using cell_lt h7
      obtain ⟨g, off, sp⟩ := a
      simp only at hsp
      subst hsp
      exact ⟨g, off, rfl, hlt, hlt, fun j hj => by
        have := hcell j hj
        rw [Addr.add_lit] at this
        exact this⟩
set_option maxRecDepth 100000 in
theorem open_bytess {r : Reach} {b0 : Nat} {v : Value} {d : DataW H} {ps : List MemPlace} (hval : Value.okWide Try.prog w r b0 22 v) (h : DataW.Trod enc Try.prog w 0 (fun _ => true) true 22 v d ps) : ∃ ls, BBV w (· < w.heap.size) ls v := by
  obtain ⟨a, len, cap, rfl⟩ := okWide_slice Try.underlying22 hval
  obtain ⟨fuel, h⟩ := h
  have hc28 : Try.prog.cellsOf 28 = 1 := by kernel_rfl
  rcases DataW.trod_slice Try.underlying22 h with ⟨e, _⟩ | ⟨a', len', cap', elems, rest, m, hm, e, hx, _, hl, hcap, hel, hall, _, _⟩
  · simp [Value.cells] at e
    obtain ⟨rfl, rfl, rfl⟩ := e
    exact ⟨[], none, 0, fun _ => .slice none 0 0, rfl, Nat.le_refl _, Nat.zero_le _, fun h => absurd h (Nat.not_lt_zero _), fun j h => absurd h (Nat.not_lt_zero _)⟩
  · simp [Value.cells] at e
    obtain ⟨rfl, rfl, rfl⟩ := e
    have hone : ∀ j, j < len → ∃ bs v, BytesV w (· < w.heap.size) bs v ∧ w.cells? 0 (a'.add (j * 1)) 1 = some [v] := fun j hj => by
      have h5 := hall j hj
      rw [hc28] at h5
      have h6 : elems[j]? = some (elems[j]'(by omega)) := List.getElem?_eq_getElem _
      rw [h6] at h5
      obtain ⟨cs', h7, h8⟩ := Option.bind_eq_some_iff.1 h5
      obtain ⟨bs, v, rfl, hv⟩ := trod_bytes h8
      exact ⟨bs, v, hv, h7⟩
    obtain ⟨ls, hll, hp⟩ := list_of (p := fun j bs => ∃ v, BytesV w (· < w.heap.size) bs v ∧ w.cells? 0 (a'.add (j * 1)) 1 = some [v]) len hone
    subst hll
    have hcell : ∀ j (h : j < ls.length), w.cell? (a'.add j) = some (hp j h).choose := fun j h => by
      have h7 := (hp j h).choose_spec.2
      obtain ⟨_, _, hat⟩ := World.cells?_some h7
      have := hat 0 (by omega)
      simpa [Addr.add] using this
    refine ⟨ls, some a', cap, fun j => if h : j < ls.length then (hp j h).choose else .slice none 0 0, rfl, hl, hcap, fun h0 => ?_, fun j h => ?_⟩
    · have h7 := hcell 0 h0
      have hsp : a'.spot = none := by simpa [Addr.add] using spot_none h7
      have hlt : a'.block < w.heap.size := by simpa [Addr.add] using cell_lt h7
      obtain ⟨g, off, sp⟩ := a'
      simp only at hsp
      subst hsp
      exact ⟨g, off, rfl, hlt, fun j hj => by
        have := hcell j hj
        rw [Addr.add_lit] at this
        simp only [hj, dif_pos]
        exact this⟩
    · simp only [h, dif_pos]
      exact (hp j h).choose_spec.1
end

theorem LentV.only0 {w0 w w' : World} {bs : List Nat} {v : Value} (h : LentV w0 w bs v) (ho : Only [] w w') : LentV w0 w' bs v := by
  obtain ⟨g, off, cap, e, hg, hs⟩ := h
  exact ⟨g, off, cap, e, hg, hs.only ho (fun _ _ => by simp)⟩
theorem VO.far5 {w w' : World} {v : V} {cs : List Value} {S : List Nat} {g : Nat} {c5 : Array Value} (h : VO w v cs S) (hb : Blk w g 5 c5) (ho : Only [g] w w') : VO w' v cs S := h.keep fun k hk => by
  obtain ⟨cur, hk2⟩ := VO.blk h k hk
  exact ho.block k hk2.lt (by simpa using Blk.ne_ hk2 hb (by decide))
set_option maxRecDepth 1000000 in
set_option maxHeartbeats 6400000 in
theorem reads_ok (w : World) {ls : List (List Nat)} {s : Value} (h : BBV w (· < w.heap.size) ls s) : Calls Try.prog 3 #[s] w fun e w' => e = .returned (.bool true) ∧ Only [] w w' := by
  obtain ⟨a, cap, vs, rfl, h1, h2, h3, h4⟩ := h
  have HC := Lib.hid h3
  have HI := Lib.hid h4
  have hlm : ls.length ≤ maxLen := by omega
  unfold maxLen at hlm
  clear h3 h4
  go_enter Try.func3, Try.ntmps3
  have HQ := Lib.hid (begun_ok w)
  go_wp2_with fail
  refine HQ.out.mono ?_
  clear HQ
  rintro e w1 ⟨rfl, ho⟩
  have HW := Lib.hid ho
  clear ho
  go_wp2
  go_loopw [4] (fun z wr => ∃ (k : Nat) (bsl : Value) (ents : List Value), k ≤ ls.length ∧ z = .int .i64 k ∧ Hid (BK w1.heap.size wr w1.heap.size bsl ents) ∧ Hid (Only [] w1 wr)) (fun z _ => ls.length - (intOf z).toNat)
  case atStart => exact ⟨0, _, _, Nat.zero_le _, rfl, Lib.hid (BK.begin w1), Lib.hid ((Only.refl _ _).alloc _)⟩
  case round =>
    obtain ⟨k, bsl, ents, hk, rfl, HB, HO⟩ := hrel
    by_cases hkl : k < ls.length
    case neg =>
      have hkz : ¬ (k : Int) < (ls.length : Int) := by omega
      have HQ := Lib.hid (Apart_ok HB.out HO.out)
      go_wp2_with fail
      refine HQ.out.mono ?_
      clear HQ
      rintro e w9 ⟨rfl, ho9⟩
      go_wp2
      exact bodyPost_ret (results_tmp rfl _ _ _) rfl ⟨rfl, HW.out.trans ho9⟩
    have hkz : (k : Int) < (ls.length : Int) := by omega
    by_cases hk30 : k < 30
    case neg =>
      have hk30z : ¬ (k : Int) < 30 := by omega
      have HQ := Lib.hid (Apart_ok HB.out HO.out)
      go_wp2_with fail
      refine HQ.out.mono ?_
      clear HQ
      rintro e w9 ⟨rfl, ho9⟩
      go_wp2
      exact bodyPost_ret (results_tmp rfl _ _ _) rfl ⟨rfl, HW.out.trans ho9⟩
    have hk30z : (k : Int) < 30 := by omega
    obtain ⟨g, off, rfl, hg, hcc⟩ := HC.out (by omega)
    have HBV := Lib.hid (HI.out k hkl)
    have HX := Lib.hid (hcc k hkl)
    have HBB := Lib.hid (show ∀ c ∈ ls[k], c < 256 by obtain ⟨_, _, _, _, _, hb, _⟩ := HBV.out; exact hb)
    have hf : ∃ a cap, vs k = .slice a ls[k].length cap := by obtain ⟨a, cap, e, _⟩ := HBV.out; exact ⟨a, cap, e⟩
    clear hcc
    generalize ls[k] = bs at *
    obtain ⟨ba, bc, hvs⟩ := hf
    rw [hvs] at HBV HX
    have HOr := Lib.hid (HW.out.trans HO.out)
    have x0 := (HOr.out.cell (p := ⟨g, off + k, none⟩) hg (by simp)).trans HX.out
    by_cases hlen : 131072 < bs.length
    · have hlz : (131072 : Int) < (bs.length : Int) := by omega
      go_wp2
      go_roundw
      case measure => simp [intOf]; omega
      case rel => exact ⟨k + 1, bsl, ents, by omega, by go_num, HB, HO⟩
    have hlz : ¬ (131072 : Int) < (bs.length : Int) := by omega
    have hbl : bs.length ≤ 2 ^ 40 := by omega
    have HQ := Lib.hid (lent_ok (HBV.out.only HOr.out (fun _ _ => by simp)) hbl)
    go_wp2_with fail
    refine HQ.out.mono ?_
    clear HQ x0
    rintro e w3 ⟨v5, rfl, hlent, ho3⟩
    have HL3 := Lib.hid hlent
    obtain ⟨g5, o5, c5, hv5, _, _⟩ := hlent
    subst hv5
    have HB3 := Lib.hid (HB.out.only0 ho3)
    have HO3 := Lib.hid (HOr.out.trans ho3)
    have HP3 := Lib.hid (HO.out.trans ho3)
    have HZ3 := Lib.hid ho3.size
    clear ho3
    obtain ⟨v, q, c, hrd⟩ : ∃ v q c, rdV bs = (v, q, c) := ⟨_, _, _, rfl⟩
    have HRA := Lib.hid (show ∀ (w w' : World) (e : Ending), ReadPost w (pread bs) e w' → ∃ cs S, e = .returned (.tuple #[.agg cs.toArray, iv q, iv c]) ∧ VO w' v cs S ∧ S.Nodup ∧ (∀ g ∈ S, w.heap.size ≤ g) ∧ Only [] w w' from fun w w' e h => by
      have := read_any h
      rw [hrd] at this
      exact this)
    have HSM := Lib.hid (show v.small by have := read_small HBB.out; rw [hrd] at this; exact this)
    clear hrd
    have HQ := Lib.hid (read_ok (HL3.out.bytes HBB.out) hbl)
    go_wp2_with fail
    refine HQ.out.mono ?_
    clear HQ
    intro e w4 hp
    obtain ⟨cs1, S1, rfl, hvo, hnd, hge, ho⟩ := HRA.out _ _ _ hp
    obtain ⟨k1, i1, r1, t1, a1, n1, d1, rfl⟩ := hvo.form
    have HV4 := Lib.hid hvo
    have HND1 := Lib.hid hnd
    have HGE1 := Lib.hid hge
    have HL4 := Lib.hid (HL3.out.only0 ho)
    have HB4 := Lib.hid (HB3.out.only0 ho)
    have HO4 := Lib.hid (HO3.out.trans ho)
    have HP4 := Lib.hid (HP3.out.trans ho)
    have HZ4 := Lib.hid (Nat.le_trans HZ3.out ho.size)
    clear hp hvo hnd hge ho HL3 HO3 HB3
    go_wp2_with (refine wpList_store_blk rfl 33 (.tmp 6) (.tmp 43) rfl [iv k1, iv i1, fv r1, .string t1, .slice a1 n1 d1] rfl rfl (Blk.new _ _ _) (by kernel_rfl) (by simp) (by simp [Value.oneCell']) ?_)
    intro w5 hB5 hO5
    have ho : Only [] w4 w5 := ((Only.refl [] w4).alloc _).trans' hO5 (fun i hi => .inr (by simp at hi; omega))
    have HT5 := Lib.hid (show Blk w5 w4.heap.size 33 #[iv k1, iv i1, fv r1, .string t1, .slice a1 n1 d1] from hB5)
    have HV5 := Lib.hid (HV4.out.only ho (fun _ _ => by simp))
    have HL5 := Lib.hid (HL4.out.only0 ho)
    have HB5 := Lib.hid (HB4.out.only0 ho)
    have HO5 := Lib.hid (HO4.out.trans ho)
    have HP5 := Lib.hid (HP4.out.trans ho)
    have HZ5 := Lib.hid (Nat.le_trans HZ4.out ho.size)
    have HLT1 := Lib.hid (show ∀ g ∈ S1, g < w5.heap.size from fun g hg => Nat.lt_of_lt_of_le (HV4.out.lt g hg) ho.size)
    clear hB5 hO5 ho HV4 HL4 HB4 HO4
    have HQ := Lib.hid (read2_ok (HBV.out.only HO5.out (fun _ _ => by simp)) hbl)
    have x0 := (HO5.out.cell (p := ⟨g, off + k, none⟩) hg (by simp)).trans HX.out
    go_wp2_with fail
    refine HQ.out.mono ?_
    clear HQ x0
    intro e w6 hp
    obtain ⟨cs2, S2, rfl, hvo, _, _, ho⟩ := HRA.out _ _ _ hp
    obtain ⟨k2, i2, r2, t2, a2, n2, d2, rfl⟩ := hvo.form
    have HU6 := Lib.hid hvo.vis
    have HT6 := Lib.hid (HT5.out.only ho (by simp))
    have HV6 := Lib.hid (HV5.out.only ho (fun _ _ => by simp))
    have HL6 := Lib.hid (HL5.out.only0 ho)
    have HB6 := Lib.hid (HB5.out.only0 ho)
    have HO6 := Lib.hid (HO5.out.trans ho)
    have HP6 := Lib.hid (HP5.out.trans ho)
    have HZ6 := Lib.hid (Nat.le_trans HZ5.out ho.size)
    have HZ56 := Lib.hid ho.size
    clear hp hvo ho HT5 HV5 HL5 HB5 HO5
    go_wp2_with (refine wpList_store_blk rfl 33 (.tmp 9) (.tmp 52) rfl [iv k2, iv i2, fv r2, .string t2, .slice a2 n2 d2] rfl rfl (Blk.new _ _ _) (by kernel_rfl) (by simp) (by simp [Value.oneCell']) ?_)
    intro w7 hB7 hO7
    have ho : Only [] w6 w7 := ((Only.refl [] w6).alloc _).trans' hO7 (fun i hi => .inr (by simp at hi; omega))
    have HR7 := Lib.hid (show Blk w7 w6.heap.size 33 #[iv k2, iv i2, fv r2, .string t2, .slice a2 n2 d2] from hB7)
    have HU7 := Lib.hid (HU6.out.only0 ho)
    have HT7 := Lib.hid (HT6.out.only ho (by simp))
    have HV7 := Lib.hid (HV6.out.only ho (fun _ _ => by simp))
    have HL7 := Lib.hid (HL6.out.only0 ho)
    have HB7 := Lib.hid (HB6.out.only0 ho)
    have HO7 := Lib.hid (HO6.out.trans ho)
    have HP7 := Lib.hid (HP6.out.trans ho)
    have HZ7 := Lib.hid (Nat.le_trans HZ6.out ho.size)
    have HZ57 := Lib.hid (Nat.le_trans HZ56.out ho.size)
    clear hB7 hO7 ho HU6 HT6 HV6 HL6 HB6 HO6 HZ56
    have HQ := Lib.hid (eq_ok _ w7 _ _ _ _ _ HV7.out.vis HU7.out)
    rw [eqV_refl] at HQ
    have hq1 : (q != q) = false := by simp
    have hc1 : (c != c) = false := by simp
    have p0 := HT7.out.cell 0
    have p1 := HT7.out.cell 1
    have p2 := HT7.out.cell 2
    have p3 := HT7.out.cell 3
    have p4 := HT7.out.cell 4
    simp at p0 p1 p2 p3 p4
    have s0 := HR7.out.cell 0
    have s1 := HR7.out.cell 1
    have s2 := HR7.out.cell 2
    have s3 := HR7.out.cell 3
    have s4 := HR7.out.cell 4
    simp at s0 s1 s2 s3 s4
    go_wp2_with fail
    refine HQ.out.mono ?_
    clear HQ p0 p1 p2 p3 p4 s0 s1 s2 s3 s4 hq1 hc1 HR7 HU7
    rintro e w8 ⟨rfl, ho⟩
    have HT8 := Lib.hid (HT7.out.only ho (by simp))
    have HV8 := Lib.hid (HV7.out.only ho (fun _ _ => by simp))
    have HL8 := Lib.hid (HL7.out.only0 ho)
    have HB8 := Lib.hid (HB7.out.only0 ho)
    have HO8 := Lib.hid (HO7.out.trans ho)
    have HP8 := Lib.hid (HP7.out.trans ho)
    have HZ8 := Lib.hid (Nat.le_trans HZ7.out ho.size)
    have HZ58 := Lib.hid (Nat.le_trans HZ57.out ho.size)
    clear ho HT7 HV7 HL7 HB7 HO7 HZ57
    have HQ := Lib.hid (back2_ok HL8.out (HBV.out.only HO8.out (fun _ _ => by simp)) (fun g hg => Nat.lt_of_lt_of_le hg HOr.out.size) hbl)
    have x0 := (HO8.out.cell (p := ⟨g, off + k, none⟩) hg (by simp)).trans HX.out
    go_wp2_with fail
    refine HQ.out.mono ?_
    clear HQ x0
    rintro e w9 ⟨rfl, g9, hg9, ⟨cu9, hb9⟩, ho⟩
    have HT9 := Lib.hid (HT8.out.only ho (by simpa using Blk.ne_ HT8.out hb9 (by decide)))
    have HV9 := Lib.hid (HV8.out.far5 hb9 ho)
    have HB9 := Lib.hid (HB8.out.far5 hb9 ho)
    have hrs := HOr.out.size
    have HO9 := Lib.hid (show Only [] w w9 from HO8.out.trans' ho (fun i hi => .inr (by simp at hi; omega)))
    have HZ59 := Lib.hid (Nat.le_trans HZ58.out ho.size)
    have HZ9 := Lib.hid (Nat.le_trans HZ8.out ho.size)
    have hrs1 := HO.out.size
    have HP9 := Lib.hid (show Only [] w1 w9 from HP8.out.trans' ho (fun i hi => .inr (by simp at hi; omega)))
    clear ho hb9 HT8 HV8 HL8 HB8 HO8 HZ58
    have HQ := Lib.hid (Light_ok HV9.out.vis)
    have p0 := HT9.out.cell 0
    have p1 := HT9.out.cell 1
    have p2 := HT9.out.cell 2
    have p3 := HT9.out.cell 3
    have p4 := HT9.out.cell 4
    simp at p0 p1 p2 p3 p4
    cases hla : v.isLight
    · rw [hla] at HQ
      go_wp2_with fail
      refine HQ.out.mono ?_
      clear HQ p0 p1 p2 p3 p4
      rintro e wA ⟨rfl, ho⟩
      have HBA := Lib.hid (HB9.out.only0 ho)
      have HPA := Lib.hid (HP9.out.trans ho)
      clear ho
      go_wp2
      go_roundw
      case measure => simp [intOf]; omega
      case rel => exact ⟨k + 1, bsl, ents, by omega, by go_num, HBA, HPA⟩
    rw [hla] at HQ
    clear hla
    go_wp2_with fail
    refine HQ.out.mono ?_
    clear HQ p0 p1 p2 p3 p4
    rintro e wA ⟨rfl, ho⟩
    have HTA := Lib.hid (HT9.out.only ho (by simp))
    have HVA := Lib.hid (HV9.out.only ho (fun _ _ => by simp))
    have HBA := Lib.hid (HB9.out.only0 ho)
    have HOA := Lib.hid (HO9.out.trans ho)
    have HPA := Lib.hid (HP9.out.trans ho)
    have HZA := Lib.hid (Nat.le_trans HZ9.out ho.size)
    have HZ5A := Lib.hid (Nat.le_trans HZ59.out ho.size)
    clear ho HT9 HV9 HB9 HO9 HP9
    have HQ := Lib.hid (read_ok (HBV.out.only HOA.out (fun _ _ => by simp)) hbl)
    have x0 := (HOA.out.cell (p := ⟨g, off + k, none⟩) hg (by simp)).trans HX.out
    go_wp2_with fail
    refine HQ.out.mono ?_
    clear HQ x0
    intro e wB hp
    obtain ⟨cs3, S3, rfl, hvo, hnd, hge, ho⟩ := HRA.out _ _ _ hp
    obtain ⟨k3, i3, r3, t3, a3, n3, d3, rfl⟩ := hvo.form
    have HUB := Lib.hid hvo
    have HND3 := Lib.hid hnd
    have HGE3 := Lib.hid hge
    have HTB := Lib.hid (HTA.out.only ho (by simp))
    have HVB := Lib.hid (HVA.out.only ho (fun _ _ => by simp))
    have HBB' := Lib.hid (HBA.out.only0 ho)
    have HPB := Lib.hid (HPA.out.trans ho)
    clear hp hvo hnd hge ho HTA HVA HBA HOA HPA
    go_wp2_with (refine wpList_store_blk rfl 33 (.tmp 12) (.tmp 86) rfl [iv k3, iv i3, fv r3, .string t3, .slice a3 n3 d3] rfl rfl (Blk.new _ _ _) (by kernel_rfl) (by simp) (by simp [Value.oneCell']) ?_)
    intro wC hBC hOC
    have ho : Only [] wB wC := ((Only.refl [] wB).alloc _).trans' hOC (fun i hi => .inr (by simp at hi; omega))
    have HRC := Lib.hid (show Blk wC wB.heap.size 33 #[iv k3, iv i3, fv r3, .string t3, .slice a3 n3 d3] from hBC)
    have HUC := Lib.hid (HUB.out.only ho (fun _ _ => by simp))
    have HTC := Lib.hid (HTB.out.only ho (by simp))
    have HVC := Lib.hid (HVB.out.only ho (fun _ _ => by simp))
    have HBC := Lib.hid (HBB'.out.only0 ho)
    have HPC := Lib.hid (HPB.out.trans ho)
    clear hBC hOC ho HUB HTB HVB HBB' HPB
    have HLE := Lib.hid (show ∀ (j : Nat) (h : j < ents.length) (g' : Nat), ents[j].ownBlock = some g' → g' < wr.heap.size from fun j hj g' hg' => by
      obtain ⟨g2, off2, n2', cap2, xs2, e2, _, _, hs2⟩ := HB.out.ent j hj
      rw [e2] at hg'
      exact hs2.lt g' hg')
    have hN3 := HZ3.out
    have HQ := Lib.hid (keep_ok v w1.heap.size wC w1.heap.size bsl ents _ S1 HBC.out HPC.out.size HVC.out HND1.out (fun g' hg' => by have := HGE1.out g' hg'; omega) (fun j hj g' hg' e => by
      have h5 := HLE.out j hj g' e
      have h6 := HGE1.out g' hg'
      omega) HSM.out)
    have p0 := HTC.out.cell 0
    have p1 := HTC.out.cell 1
    have p2 := HTC.out.cell 2
    have p3 := HTC.out.cell 3
    have p4 := HTC.out.cell 4
    simp at p0 p1 p2 p3 p4
    go_wp2_with fail
    refine HQ.out.mono ?_
    clear HQ p0 p1 p2 p3 p4
    rintro e wD ⟨rfl, bsl2, ents2, hb2, hsrc2, hown2, hon2⟩
    have HBD := Lib.hid hb2
    have HSD := Lib.hid hsrc2
    have HRD := Lib.hid ((HBC.out.besides hon2 HRC.out (by decide) (by decide)).trans HRC.out)
    have HUD := Lib.hid (HUC.out.keep (w' := wD) fun g' hg' => by
      obtain ⟨cur, hb⟩ := VO.blk HUC.out g' hg'
      exact HBC.out.besides hon2 hb (by decide) (by decide))
    have HPD := Lib.hid (show Only [] w1 wD from HPC.out.trans' hon2 fun i hi => .inr (by
      rcases List.mem_cons.1 hi with e | hi
      · omega
      · exact HBC.out.sge i (by simpa using hi)))
    clear hb2 hsrc2 hown2 hon2 HUC HTC HVC HPC
    have hz5A := HZ5A.out
    have hzA := HZA.out
    have HQ := Lib.hid (keep_ok v w1.heap.size wD w1.heap.size bsl2 ents2 _ S3 HBD.out HPD.out.size HUD.out HND3.out (fun g' hg' => by have := HGE3.out g' hg'; omega) (fun j hj g' hg' e => by
      have h6 := HGE3.out g' hg'
      rcases HSD.out j hj with ⟨i, hi, e2⟩ | ⟨g2, hg2, e2⟩
      · rw [e2] at e
        have h5 := HLE.out i hi g' e
        omega
      · rw [e2] at e
        injection e with e
        subst e
        have := HLT1.out _ hg2
        omega) HSM.out)
    have p0 := (show Blk wD wB.heap.size 33 #[iv k3, iv i3, fv r3, .string t3, .slice a3 n3 d3] from HRD.out).cell 0
    have p1 := (show Blk wD wB.heap.size 33 #[iv k3, iv i3, fv r3, .string t3, .slice a3 n3 d3] from HRD.out).cell 1
    have p2 := (show Blk wD wB.heap.size 33 #[iv k3, iv i3, fv r3, .string t3, .slice a3 n3 d3] from HRD.out).cell 2
    have p3 := (show Blk wD wB.heap.size 33 #[iv k3, iv i3, fv r3, .string t3, .slice a3 n3 d3] from HRD.out).cell 3
    have p4 := (show Blk wD wB.heap.size 33 #[iv k3, iv i3, fv r3, .string t3, .slice a3 n3 d3] from HRD.out).cell 4
    simp at p0 p1 p2 p3 p4
    go_wp2_with fail
    refine HQ.out.mono ?_
    clear HQ p0 p1 p2 p3 p4
    rintro e wE ⟨rfl, bsl3, ents3, hb3, _, _, hon3⟩
    have HBE := Lib.hid hb3
    have HPE := Lib.hid (show Only [] w1 wE from HPD.out.trans' hon3 fun i hi => .inr (by
      rcases List.mem_cons.1 hi with e | hi
      · omega
      · exact HBD.out.sge i (by simpa using hi)))
    clear hb3 hon3
    go_wp2
    go_roundw
    case measure => simp [intOf]; omega
    case rel => exact ⟨k + 1, bsl3, ents3, by omega, by go_num, HBE, HPE⟩
theorem reads_row (w : World) {ls : List (List Nat)} {s : Value} (h : BBV w (· < w.heap.size) ls s) : Calls Try.prog 3 #[s] w fun e w' => e = .returned (.bool true) ∧ Only [] w w' := reads_ok w h
end Go.Proofs.Ytffdfegelgpniaa
