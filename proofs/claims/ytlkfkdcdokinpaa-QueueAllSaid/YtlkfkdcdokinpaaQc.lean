import Derived.Test.YtlkfkdcdokinpaaQb
import Derived.Laws.MakeOwn
namespace Go.Proofs.Ytlkfkdcdokinpaa
open Go.RowKit Go.Fl

set_option maxHeartbeats 800000 in
/-- There is room in the ring's slice. -/
theorem push_room {q r L : Nat} {cap bytes used id size : Int} {line ids : Value} {f n : Nat} {cur : Array Value} (w : World) (hB : QB w q cap bytes used (.slice (some ⟨r, 0, none⟩) L L) f n line ids)
    (hR : Blk w r 38 cur) (hcs : cur.size = L * 2) (hf : f < L) (hn : n < L) (hL : L ≤ 4096) (hrq : r ≠ q) :
    Calls Try.prog 40 #[.pointer (some ⟨q, 3, none⟩), .agg #[.int .i64 id, .int .i64 size]] w fun e w' => e = .returned (.tuple #[]) ∧
      QB w' q cap bytes used (.slice (some ⟨r, 0, none⟩) L L) f (n + 1 : Nat) line ids ∧ Blk w' r 38 ((cur.setIfInBounds ((f + n) % L * 2) (.int .i64 id)).setIfInBounds ((f + n) % L * 2 + 1) (.int .i64 size)) ∧ Only [q, r] w w' := by
  obtain ⟨hc, hfz, hlt⟩ := hB.facts
  obtain ⟨rc, rfz, rlt⟩ := hR.facts
  have HB := Lib.hid hB
  have HR := Lib.hid hR
  have hL0 : (0 : Int) < L := by omega
  have hm0 : (0 : Int) ≤ ((f : Int) + n) % L := Int.emod_nonneg _ (by omega)
  have hm1 : ((f : Int) + n) % L < L := Int.emod_lt_of_pos _ hL0
  have hz : ((L : Int) == 0) = false := by simp; omega
  have hz' : (L == 0) = false := by simp; omega
  have hnl : ((n : Int) == L) = false := by simp; omega
  have hnl' : (n == L) = false := by simp; omega
  have hx := emod_toNat f n L
  have hml : (f + n) % L < L := Nat.mod_lt _ (by omega)
  have i0 : ∃ v, cur[(f + n) % L * 2]? = some v := ⟨_, Array.getElem?_eq_getElem (by omega)⟩
  have i1 : ∃ v, cur[(f + n) % L * 2 + 1]? = some v := ⟨_, Array.getElem?_eq_getElem (by omega)⟩
  obtain ⟨v0, i0⟩ := i0
  obtain ⟨v1, i1⟩ := i1
  have c0 : w.cell? ⟨r, (f + n) % L * 2, none⟩ = some v0 := (rc _).trans i0
  have c1 : w.cell? ⟨r, (f + n) % L * 2 + 1, none⟩ = some v1 := (rc _).trans i1
  clear hB hR rc i0 i1
  go_enter Try.func40, Try.ntmps40
  go_wp2
  refine Lex.wp_region_text (by kernel_rfl) (by kernel_rfl) ?_
  go_wp2
  refine Lex.sq_done (by rfl) ?_
  go_wp2
  refine Lex.wp_region_text (by kernel_rfl) (by kernel_rfl) ?_
  go_wp2
  refine Lex.sq_done (by rfl) ?_
  go_wp2
  go_end0
  refine ⟨rfl, ?_, ?_, ?_⟩
  · (repeat' (first | with_reducible exact HB.out | with_reducible apply Blk.drew | with_reducible apply Blk.drewN | with_reducible apply Blk.alloc | ((with_reducible apply Blk.far); rotate_left; (focus (simp <;> omega))) | with_reducible apply Blk.set' | with_reducible exact SetEq.rfl' | (simp [SetEq]; done) | (simp [SetEq]; omega)))
  · (repeat' (first | with_reducible exact HR.out | with_reducible apply Blk.drew | with_reducible apply Blk.drewN | with_reducible apply Blk.alloc | ((with_reducible apply Blk.far); rotate_left; (focus (simp <;> omega))) | with_reducible apply Blk.set' | with_reducible exact SetEq.rfl' | (simp [SetEq]; done) | (simp [SetEq]; omega)))
  · (repeat (first | with_reducible exact Only.refl _ _ | with_reducible exact Only.refl [q, r] w | with_reducible refine Only.drew ?_ | with_reducible refine Only.drewN ?_ _ | with_reducible refine Only.alloc ?_ _ | ((with_reducible refine Only.setCell ?_ ?_ _); rotate_left; (focus (first | (left; simp; done) | (right; simp; done) | (right; simp; omega) | (right; omega))))))

theorem zeros_size (m : Nat) : (madeCells #[.int .i64 0, .int .i64 0] m).size = m := size_madeCells _ _

set_option maxHeartbeats 1600000 in
/-- The ring's slice is full: a greater one. -/
theorem push_grow {q : Nat} {A : Option Addr} {cap bytes used id size : Int} {line ids : Value} {f n : Nat} {held : List Item} (w : World) (hB : QB w q cap bytes used (.slice A n n) f n line ids)
    (hR : RingIs w (.slice A n n) f n held) (hn : n ≤ 1100) (hq : (Value.slice A n n).ownBlock ≠ some q) :
    Calls Try.prog 40 #[.pointer (some ⟨q, 3, none⟩), .agg #[.int .i64 id, .int .i64 size]] w fun e w' => e = .returned (.tuple #[]) ∧
      ∃ r, w.heap.size ≤ r ∧ QB w' q cap bytes used (.slice (some ⟨r, 0, none⟩) (2 * n + 1) (2 * n + 1)) (0 : Nat) (n + 1 : Nat) line ids ∧ RingIs w' (.slice (some ⟨r, 0, none⟩) (2 * n + 1) (2 * n + 1)) 0 (n + 1) (held ++ [(id, size)]) ∧ Only [q] w w' := by
  obtain ⟨j0, hi, hz0, hz1, hz2⟩ := info_parts info38
  have hlen := hR.1
  obtain ⟨hc, hfz, hlt⟩ := hB.facts
  have HB := Lib.hid hB
  have HR := Lib.hid hR
  have hnl : ((n : Int) == n) = true := by simp
  have hmk : ∀ u : World, (Instr.makeSlice 31 (.int .i64 (2 * (n : Int) + 1)) (.int .i64 (2 * (n : Int) + 1))).run Try.prog u =
      .ok (.slice (some ⟨u.heap.size, 0, none⟩) (2 * n + 1) (2 * n + 1)) (u.alloc (.cells (madeCells #[.int .i64 0, .int .i64 0] ((2 * n + 1) * 2)) 38)) := fun u => by
    have h := run_make (P := Try.prog) u 31 38 j0 (.agg #[.int .i64 0, .int .i64 0]) Try.underlying31 hi hz0 .i64 .i64 (2 * (n : Int) + 1) (2 * (n : Int) + 1) (by omega) (Int.le_refl _) (by rw [hz2]; omega) (by omega)
    have e : (2 * (n : Int) + 1).toNat = 2 * n + 1 := by omega
    rw [e] at h
    simpa [hz1, Value.cells] using h
  obtain ⟨L, hL⟩ : ∃ L, L = 2 * n + 1 := ⟨_, rfl⟩
  rw [← hL] at hmk
  generalize hzz : madeCells #[.int .i64 0, .int .i64 0] (L * 2) = zs at hmk
  have hzs : zs.size = L * 2 := by rw [← hzz]; exact size_madeCells _ _
  have HZ := Lib.hid hzs
  have HL := Lib.hid hL
  have hnL : n < L := by omega
  have hnlt : n ≤ 4096 := by omega
  have HLEN := Lib.hid hlen
  clear hB hR hzz hzs hL hlen
  go_enter Try.func40, Try.ntmps40
  go_wp2
  refine Lex.wp_region_text (by kernel_rfl) (by kernel_rfl) ?_
  go_wp2
  refine Lex.sq_done (by rfl) ?_
  go_wp2_with fail
  refine (all_ok _ (((HB.out.alloc _).alloc _).drew) (HR.out.keep (w' := (World.alloc (World.alloc w _) _).drew) fun g hg => (Below.heap_alloc _ _ g (by have := HR.out.lt g hg; simp; omega)).trans (Below.heap_alloc w _ g (HR.out.lt g hg))) hnlt hq).mono ?_
  rintro e w1 ⟨v, rfl, hF1, ho1⟩
  have hs1 : w.heap.size + 2 ≤ w1.heap.size := by have := ho1.size; simp at this; omega
  have hX1 : Blk w1 w.heap.size 38 #[.int .i64 id, .int .i64 size] := (((Blk.new w 38 _).alloc _).drew).only ho1 (by simp)
  have hZ1 : Blk w1 (w.heap.size + 1) 38 zs := by
    have := (Blk.new (w.alloc (.cells #[.int .i64 id, .int .i64 size] 38)) 38 zs).drew.only ho1 (by simp)
    simpa using this
  have hB1 := (((HB.out.alloc (.cells #[.int .i64 id, .int .i64 size] 38)).alloc (.cells zs 38)).drew).only ho1 (by simp)
  have HX1 := Lib.hid hX1
  have HZ1 := Lib.hid hZ1
  have HB1 := Lib.hid hB1
  have HF1 := Lib.hid hF1
  have HO1 := Lib.hid ((((Only.refl [q] w).alloc _).alloc _).drew.trans' ho1 (by simp))
  clear hF1 ho1 hX1 hZ1 hB1 hc hfz
  go_wp2_with (refine wpList_copy_sl rfl (.tmp 22) (.tmp 24) 31 31 rfl 38 Try.underlying31 (size := 2) (by kernel_rfl) rfl rfl HZ1.out HF1.out.1 (by have := HLEN.out; omega) (by rw [cells_length]; have := HZ.out; have := HLEN.out; omega) (cells_one _) ?_)
  intro w2 hZ2 ho2
  obtain ⟨cur, hcur, hZ2⟩ : ∃ cur, (cells held ++ zs.toList.drop (cells held).length).toArray = cur ∧ Blk w2 (w.heap.size + 1) 38 cur := ⟨_, rfl, hZ2⟩
  have hzq : q ≠ w.heap.size + 1 := by omega
  have hs2 := ho2.size
  have hB2 := HB1.out.only ho2 (by simp; omega)
  have hX2 := HX1.out.only ho2 (by simp)
  have HO2 := Lib.hid (HO1.out.trans' ho2 (by simp))
  obtain ⟨hc, hfz, hlt2⟩ := hB2.facts
  obtain ⟨xc, xfz, xlt⟩ := hX2.facts
  obtain ⟨zc, zfz, zlt⟩ := hZ2.facts
  have HB2 := Lib.hid hB2
  have HZ2 := Lib.hid hZ2
  have hcl := cells_length held
  have hlen := HLEN.out
  have hzl := HZ.out
  have hcs : cur.size = L * 2 := by rw [← hcur]; simp [hcl]; omega
  have hca : ∀ i x, held[i]? = some x → cur[i * 2]? = some (.int .i64 x.1) ∧ cur[i * 2 + 1]? = some (.int .i64 x.2) := fun i x hx => by
    have h := cells_at held i x hx
    have hi : i < held.length := (List.getElem?_eq_some_iff.1 hx).1
    rw [← hcur]
    simp only [List.getElem?_toArray]
    rw [List.getElem?_append_left (by omega), List.getElem?_append_left (by omega)]
    exact h
  have HCS := Lib.hid hcs
  have HCA := Lib.hid hca
  obtain ⟨v0, i0⟩ : ∃ v, cur[n * 2]? = some v := ⟨_, Array.getElem?_eq_getElem (by omega)⟩
  obtain ⟨v1, i1⟩ : ∃ v, cur[n * 2 + 1]? = some v := ⟨_, Array.getElem?_eq_getElem (by omega)⟩
  have c0 : w2.cell? ⟨w.heap.size + 1, n * 2, none⟩ = some v0 := (zc _).trans i0
  have c1 : w2.cell? ⟨w.heap.size + 1, n * 2 + 1, none⟩ = some v1 := (zc _).trans i1
  have hm : (n : Int) % L = n := Int.emod_eq_of_lt (by omega) (by omega)
  have hLz : ((L : Int) == 0) = false := by simp; omega
  have hLz' : (L == 0) = false := by simp; omega
  have hnLi : (n : Int) < L := by omega
  clear hB2 hX2 hZ2 ho2 hcl hzl hcur hcs hca i0 i1 zc hlen hnl hmk
  go_wp2
  refine Lex.wp_region_text (by kernel_rfl) (by kernel_rfl) ?_
  go_wp2
  refine Lex.sq_done (by rfl) ?_
  go_wp2
  go_end0
  rw [← HL.out]
  refine ⟨rfl, w.heap.size + 1, by omega, ?_, ⟨by simp [HLEN.out], .inr ⟨_, L, (cur.setIfInBounds (n * 2) (.int .i64 id)).setIfInBounds (n * 2 + 1) (.int .i64 size), rfl, ?_, by simp [HCS.out], by omega, by omega, by have := HL.out; omega, fun i x hx => ?_⟩⟩, ?_⟩
  · (repeat' (first | with_reducible exact HB2.out | with_reducible apply Blk.drew | with_reducible apply Blk.drewN | with_reducible apply Blk.alloc | ((with_reducible apply Blk.far); rotate_left; (focus (simp <;> omega))) | with_reducible apply Blk.set' | with_reducible exact SetEq.rfl' | (simp [SetEq]; done) | (simp [SetEq]; omega)))
  · (repeat' (first | with_reducible exact HZ2.out | with_reducible apply Blk.drew | with_reducible apply Blk.drewN | with_reducible apply Blk.alloc | ((with_reducible apply Blk.far); rotate_left; (focus (simp <;> omega))) | with_reducible apply Blk.set' | with_reducible exact SetEq.rfl' | (simp [SetEq]; done) | (simp [SetEq]; omega)))
  rotate_left
  · (repeat (first | with_reducible exact Only.refl _ _ | with_reducible exact HO2.out | with_reducible refine Only.drew ?_ | with_reducible refine Only.drewN ?_ _ | with_reducible refine Only.alloc ?_ _ | ((with_reducible refine Only.setCell ?_ ?_ _); rotate_left; (focus (first | (left; simp; done) | (right; simp; done) | (right; simp; omega) | (right; omega))))))
  have hi : i < n + 1 := by have := (List.getElem?_eq_some_iff.1 hx).1; simp [HLEN.out] at this; omega
  have hmi : (0 + i) % L = i := by rw [Nat.zero_add]; exact Nat.mod_eq_of_lt (by omega)
  have hcs := HCS.out
  have hlen := HLEN.out
  rw [hmi]
  by_cases hin : i = n
  · subst hin
    rw [List.getElem?_append_right (by omega), hlen, Nat.sub_self] at hx
    simp at hx
    subst hx
    refine ⟨?_, ?_⟩
    · rw [Array.getElem?_setIfInBounds_ne (by omega), Array.getElem?_setIfInBounds_self_of_lt (by omega)]
    · rw [Array.getElem?_setIfInBounds_self_of_lt (by simp; omega)]
  · rw [List.getElem?_append_left (by omega)] at hx
    have := HCA.out i x hx
    rw [Array.getElem?_setIfInBounds_ne (by omega), Array.getElem?_setIfInBounds_ne (by omega), Array.getElem?_setIfInBounds_ne (by omega), Array.getElem?_setIfInBounds_ne (by omega)]
    exact this
end Go.Proofs.Ytlkfkdcdokinpaa
