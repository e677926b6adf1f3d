/-
  The queue's Leave: slices.Delete of one element.
-/
import Derived.Test.YtlkfkdcdokinpaaTa
import Derived.Test.YtlkfkdcdokinpaaCuts
namespace Go.Proofs.Ytlkfkdcdokinpaa
open Go.RowKit Go.Fl

theorem cells_take : ∀ (l : List Item) (i : Nat), cells (l.take i) = (cells l).take (i * 2)
  | [], i => by simp [cells]
  | x :: l, 0 => rfl
  | x :: l, i + 1 => by
    have ih := cells_take l i
    have e : cells (x :: l) = .int .i64 x.1 :: .int .i64 x.2 :: cells l := rfl
    rw [List.take_succ_cons, show cells (x :: l.take i) = .int .i64 x.1 :: .int .i64 x.2 :: cells (l.take i) from rfl, e, show (i + 1) * 2 = i * 2 + 1 + 1 by omega, List.take_succ_cons, List.take_succ_cons, ih]
theorem cells_drop : ∀ (l : List Item) (i : Nat), cells (l.drop i) = (cells l).drop (i * 2)
  | [], i => by simp [cells]
  | x :: l, 0 => rfl
  | x :: l, i + 1 => by
    have ih := cells_drop l i
    have e : cells (x :: l) = .int .i64 x.1 :: .int .i64 x.2 :: cells l := rfl
    rw [List.drop_succ_cons, e, show (i + 1) * 2 = i * 2 + 1 + 1 by omega, List.drop_succ_cons, List.drop_succ_cons, ih]
theorem cells_erase (l : List Item) (i : Nat) : cells (l.eraseIdx i) = (cells l).take (i * 2) ++ (cells l).drop ((i + 1) * 2) := by
  rw [List.eraseIdx_eq_take_drop_succ, cells_append, cells_take, cells_drop]
theorem zero1 : (Builtin.zeroCells (Value.agg #[.int .i64 0, .int .i64 0]).cells 1).toList = [.int .i64 0, .int .i64 0] := by kernel_rfl

set_option maxHeartbeats 800000 in
theorem delete_ok {v : Value} {line : List Item} (i : Nat) (w : World) (hS : Sl w 38 2 v line.length (cells line)) (h0 : i < line.length) (hl : line.length ≤ 4096) :
    Calls Try.prog 36 #[v, .int .i64 i, .int .i64 (i + 1)] w fun e w' => ∃ v', e = .returned v' ∧ Sl w' 38 2 v' (line.eraseIdx i).length (cells (line.eraseIdx i)) ∧ v'.ownBlock = v.ownBlock ∧ Only v.ownBlock.toList w w' := by
  obtain ⟨j0, hi, hz0, hz1, hz2⟩ := info_parts info38
  obtain ⟨g, o, c, hv, hg, hnc, hcm, _, _⟩ := hS.form (by omega)
  subst hv
  have HF := Lib.hid (hS.front (k := i) (cap2 := c) (by omega) (by omega) (Nat.le_refl _))
  have HT := Lib.hid (hS.cut (k := i + 1) (by omega))
  have HS := Lib.hid hS
  clear hS
  by_cases hc : c = i + 1
  · have hi1 : i + 1 = line.length := by omega
    obtain rfl : c = line.length := by omega
    clear hc
    have HN := Lib.hid (show i = (line.eraseIdx i).length by rw [List.length_eraseIdx, if_pos h0]; omega)
    have HE : Hid (Sl w.drew 38 2 (.slice (some ⟨g, o, none⟩) i line.length) i (cells (line.eraseIdx i))) := Lib.hid (by
      rw [cells_erase, List.drop_eq_nil_of_le (by rw [cells_length]; omega), List.append_nil]; exact HF.out)
    go_enter Try.func36, Try.ntmps36
    go_wp2_with fail
    refine Lex.wp_region_text (by kernel_rfl) (by kernel_rfl) ?_
    go_wp2
    refine Lex.sq_done (by rfl) ?_
    go_wp2_with (refine wpList_clear_tail rfl (.tmp 31) 31 rfl 38 j0 _ 2 Try.underlying31 hi hz0 0 (by omega) HE.out rfl _ zero1 rfl (by simp [Value.oneCell']) (by omega) ?_)
    intro w3 hS3 hO3
    have HS3 := Lib.hid hS3
    have HO3 := Lib.hid hO3
    clear hS3 hO3
    go_wp2
    go_ret
    exact ⟨_, rfl, HN.out ▸ HS3.out, rfl, by simpa [Value.ownBlock] using ((Only.refl [g] w).drew.trans HO3.out)⟩
  · have HT2 : Hid (Sl w 38 2 (.slice (some ⟨g, o + (i + 1) * 2, none⟩) (line.length - (i + 1)) (c - (i + 1))) (line.length - (i + 1)) ((cells line).drop ((i + 1) * 2))) := Lib.hid (by
      have := HT.out
      rw [if_neg hc] at this
      have e : (i + 1) * 2 ≠ 0 := by omega
      simpa [Addr.add] using this)
    clear HT
    have HN := Lib.hid (show i + (line.length - (i + 1)) = (line.eraseIdx i).length by rw [List.length_eraseIdx, if_pos h0]; omega)
    go_enter Try.func36, Try.ntmps36
    go_wp2_with fail
    refine Lex.wp_region_text (by kernel_rfl) (by kernel_rfl) ?_
    go_wp2_with (at_builtin; refine wpList_append_room rfl (.tmp 22) (.tmp 25) 31 rfl 38 j0 2 Try.underlying31 hi hz1 rfl HF.out rfl HT2.out (fun u hu => cells_one line u (List.mem_of_mem_drop hu)) (by omega) ?_)
    intro w2 hS2 hO2
    have HS2 := Lib.hid hS2
    have HO2 := Lib.hid hO2
    clear hS2 hO2
    have HE : Hid (Sl w2 38 2 (.slice (some ⟨g, o, none⟩) (i + (line.length - (i + 1)) : Nat) c) (i + (line.length - (i + 1))) (cells (line.eraseIdx i))) := Lib.hid (by rw [cells_erase]; exact HS2.out)
    go_wp2
    refine Lex.sq_done (by rfl) ?_
    go_wp2_with (refine wpList_clear_tail rfl (.tmp 31) 31 rfl 38 j0 _ 2 Try.underlying31 hi hz0 0 (by omega) HE.out rfl _ zero1 rfl (by simp [Value.oneCell']) (by omega) ?_)
    intro w3 hS3 hO3
    have HS3 := Lib.hid hS3
    have HO3 := Lib.hid hO3
    clear hS3 hO3
    go_wp2
    go_ret
    exact ⟨_, rfl, HN.out ▸ HS3.out, rfl, by simpa [Value.ownBlock] using ((Only.refl [g] w).drew.trans (HO2.out.trans HO3.out))⟩
end Go.Proofs.Ytlkfkdcdokinpaa
