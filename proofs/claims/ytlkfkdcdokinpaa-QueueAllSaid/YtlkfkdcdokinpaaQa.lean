import Derived.Test.YtlkfkdcdokinpaaRows
import Derived.Test.YtlkfkdcdokinpaaLex3
import Derived.Test.YtlkfkdcdokinpaaMaps
import Derived.IntWalk
namespace Go.Proofs.Ytlkfkdcdokinpaa
open Go.RowKit Go.Fl

theorem emod_toNat (a b L : Nat) : (((a : Int) + b) % L).toNat = (a + b) % L := by rw [← Int.natCast_add, ← Int.natCast_emod, Int.toNat_natCast]

/-- The queue's struct. -/
abbrev QB (w : World) (q : Nat) (cap bytes used : Int) (l : Value) (f n : Int) (line ids : Value) : Prop := Blk w q 59 #[.int .i64 cap, .int .i64 bytes, .int .i64 used, l, .int .i64 f, .int .i64 n, line, ids]

set_option maxHeartbeats 400000 in
theorem at_walk (q r L C f n i : Nat) (cap bytes used id size : Int) (line ids : Value) (cur : Array Value) (w : World) (hB : QB w q cap bytes used (.slice (some ⟨r, 0, none⟩) L C) f n line ids) (hR : Blk w r 38 cur)
    (hL : L ≤ 4096) (hf : f < L) (hi : i < L) (hid : cur[(f + i) % L * 2]? = some (.int .i64 id)) (hsz : cur[(f + i) % L * 2 + 1]? = some (.int .i64 size)) :
    Calls Try.prog 26 #[.pointer (some ⟨q, 3, none⟩), .int .i64 i] w fun e w' => e = .returned (.agg #[.int .i64 id, .int .i64 size]) ∧ Only [] w w' := by
  have hq := hB.lt
  have hr := hR.lt
  have h3 : w.cell? ⟨q, 3, none⟩ = some (.slice (some ⟨r, 0, none⟩) L C) := hB.cell 3
  have h4 : w.cell? ⟨q, 4, none⟩ = some (.int .i64 f) := hB.cell 4
  have hid : w.cell? ⟨r, (f + i) % L * 2, none⟩ = some (.int .i64 id) := (hR.cell _).trans hid
  have hsz : w.cell? ⟨r, (f + i) % L * 2 + 1, none⟩ = some (.int .i64 size) := (hR.cell _).trans hsz
  have hL0 : (0 : Int) < L := by omega
  have hm0 : (0 : Int) ≤ ((f : Int) + i) % L := Int.emod_nonneg _ (by omega)
  have hm1 : ((f : Int) + i) % L < L := Int.emod_lt_of_pos _ hL0
  have hz : ((L : Int) == 0) = false := by simp; omega
  have hz' : (L == 0) = false := by simp; omega
  have hx := emod_toNat f i L
  clear hB hR
  go_enter Try.func26, Try.ntmps26
  go_wp2
  refine Lex.wp_region_text (by kernel_rfl) (by kernel_rfl) ?_
  go_wp2
  refine Lex.sq_done (by rfl) ?_
  go_wp2
  exact bodyPost_ret (v := .agg #[.int .i64 id, .int .i64 size]) (by simp [results, Try.results26, go_sem]) rfl ⟨rfl, ((Only.refl _ _).alloc _).drew⟩

set_option maxHeartbeats 400000 in
theorem pop_walk (q r L C f n : Nat) (cap bytes used id size : Int) (line ids : Value) (cur : Array Value) (w : World) (hB : QB w q cap bytes used (.slice (some ⟨r, 0, none⟩) L C) f n line ids) (hR : Blk w r 38 cur)
    (hL : L ≤ 4096) (hf : f < L) (hn : 0 < n) (hn2 : n ≤ L) (hid : cur[f * 2]? = some (.int .i64 id)) (hsz : cur[f * 2 + 1]? = some (.int .i64 size)) :
    Calls Try.prog 27 #[.pointer (some ⟨q, 3, none⟩)] w fun e w' => e = .returned (.agg #[.int .i64 id, .int .i64 size]) ∧ QB w' q cap bytes used (.slice (some ⟨r, 0, none⟩) L C) ((f + 1) % L : Nat) (n - 1 : Nat) line ids ∧ Only [q] w w' := by
  have hf' : (f + 0) % L = f := Nat.mod_eq_of_lt hf
  have C1 := fun w hB hR => at_walk q r L C f n 0 cap bytes used id size line ids cur w hB hR hL hf (by omega) (by rw [hf']; exact hid) (by rw [hf']; exact hsz)
  have HC := Lib.hid C1
  clear C1
  have hq := hB.lt
  have hr := hR.lt
  have HB := Lib.hid hB
  have HR := Lib.hid hR
  have hL0 : (0 : Int) < L := by omega
  have hm0 : (0 : Int) ≤ ((f : Int) + 1) % L := Int.emod_nonneg _ (by omega)
  have hm1 : ((f : Int) + 1) % L < L := Int.emod_lt_of_pos _ hL0
  have hz : ((L : Int) == 0) = false := by simp; omega
  have hz' : (L == 0) = false := by simp; omega
  clear hB hR hid hsz hf'
  go_enter Try.func27, Try.ntmps27
  go_wp2_with fail
  go_at_call 26
  refine (HC.out _ (HB.out.alloc _) (HR.out.alloc _)).mono ?_
  rintro e w1 ⟨rfl, ho1⟩
  have hB1 : QB w1 q cap bytes used (.slice (some ⟨r, 0, none⟩) L C) f n line ids := (HB.out.alloc _).only ho1 (by simp)
  have hN1 : Blk w1 w.heap.size 38 #[.int .i64 0, .int .i64 0] := (Blk.new w 38 _).only ho1 (by simp)
  have hs1 : w.heap.size + 1 ≤ w1.heap.size := by have := ho1.size; simp at this; omega
  obtain ⟨hc1, hf1, hq1⟩ := hB1.facts
  obtain ⟨nc1, nf1, nq1⟩ := hN1.facts
  have HB1 := Lib.hid hB1
  have HO1 := Lib.hid (((Only.refl [q] w).alloc _).trans' ho1 (by simp))
  clear hB1 ho1
  go_wp2
  refine Lex.wp_region_text (by kernel_rfl) (by kernel_rfl) ?_
  go_wp2
  refine Lex.sq_done (by rfl) ?_
  go_wp2
  refine bodyPost_ret (v := .agg #[.int .i64 id, .int .i64 size]) ?_ rfl ⟨rfl, ?_, ?_⟩
  · refine results1 rfl (res_blk Try.underlying38 (by kernel_rfl) rfl (cs := [.int .i64 id, .int .i64 size]) ?_)
    (repeat' (first | with_reducible exact hN1 | with_reducible apply Blk.drew | with_reducible apply Blk.drewN | with_reducible apply Blk.alloc | ((with_reducible apply Blk.far); rotate_left; (focus (simp <;> omega))) | with_reducible apply Blk.set' | with_reducible exact SetEq.rfl' | (simp [SetEq]; done) | (simp [SetEq]; omega)))
  · show Blk _ _ _ _
    (repeat' (first | with_reducible exact HB1.out | with_reducible apply Blk.drew | with_reducible apply Blk.drewN | with_reducible apply Blk.alloc | ((with_reducible apply Blk.far); rotate_left; (focus (simp <;> omega))) | with_reducible apply Blk.set' | with_reducible exact SetEq.rfl' | (simp [SetEq]; done) | (simp [SetEq]; omega)))
  · (repeat (first | with_reducible exact Only.refl _ _ | with_reducible exact HO1.out | with_reducible refine Only.drew ?_ | with_reducible refine Only.drewN ?_ _ | with_reducible refine Only.alloc ?_ _ | ((with_reducible refine Only.setCell ?_ ?_ _); rotate_left; (focus (first | (left; simp; done) | (right; simp; done) | (right; simp; omega) | (right; omega))))))
end Go.Proofs.Ytlkfkdcdokinpaa
