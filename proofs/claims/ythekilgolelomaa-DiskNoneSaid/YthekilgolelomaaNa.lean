/-
  No disk: nil, or a zero one.
-/
import Derived.Test.YthekilgolelomaaDq
import Derived.Test.YthekilgolelomaaDo
set_option linter.unusedSimpArgs false
set_option linter.unusedVariables false
namespace Go.Proofs.Ythekilgolelomaa
open Go.RowKit Go.Fl Go.Shelf

def zcells : Array Value := #[.bool false, .bool false, iv 0, .map none, .map none, .slice none 0 0, iv 0, iv 0, iv 0, iv 0, iv 0, iv 0, iv 0, iv 0, iv 0, .slice none 0 0, iv 0]
/-- A nil disk, or a zero one. -/
def ND (w : World) (v : Value) : Prop := v = .pointer none ∨ ∃ d, v = cp d ∧ Blk w d 59 zcells
section
variable {w w' : World} {v : Value}
theorem ND.only (h : ND w v) (ho : Only [] w w') : ND w' v := h.imp (fun e => e) fun ⟨d, e, hb⟩ => ⟨d, e, hb.only ho (by simp)⟩
set_option maxRecDepth 100000 in
theorem on_no (h : ND w v) : Calls Try.prog 37 #[v] w fun e w' => e = .returned (.bool false) ∧ w' = w := by
  rcases h with rfl | ⟨d, rfl, hb⟩
  · go_enter Try.func37, Try.ntmps37
    go_wp2
    exact bodyPost_ret (results_tmp rfl _ _ _) rfl ⟨rfl, rfl⟩
  · have x0 := hb.cell 0
    have x5 := hb.cell 5
    have xl := hb.lt
    simp [zcells] at x0 x5
    clear hb
    go_enter Try.func37, Try.ntmps37
    go_wp2
    exact bodyPost_ret (results_tmp rfl _ _ _) rfl ⟨rfl, rfl⟩
set_option maxRecDepth 100000 in
theorem up_no (h : ND w v) : Calls Try.prog 24 #[v] w fun e w' => e = .returned (.bool false) ∧ w' = w := by
  have HC := Lib.hid (on_no h)
  clear h
  go_enter Try.func24, Try.ntmps24
  go_wp2_with fail
  refine HC.out.mono ?_
  rintro e w1 ⟨rfl, rfl⟩
  go_wp2
  exact bodyPost_ret (results_tmp rfl _ _ _) rfl ⟨rfl, rfl⟩
set_option maxRecDepth 100000 in
theorem find_no (h : ND w v) (s : Nm) : Calls Try.prog 30 #[v, sk s] w fun e w' => e = .returned (.tuple #[.pointer none, iv 22]) ∧ w' = w := by
  have HC := Lib.hid (on_no h)
  clear h
  go_enter Try.func30, Try.ntmps30
  go_wp2_with fail
  refine HC.out.mono ?_
  rintro e w1 ⟨rfl, rfl⟩
  go_wp2
  exact bodyPost_ret (results2 rfl (res_tmp rfl) (res_tmp rfl)) rfl ⟨rfl, rfl⟩
set_option maxRecDepth 100000 in
theorem read_no (h : ND w v) (s : Nm) (o n : Int) : Calls Try.prog 15 #[v, sk s, iv o, iv n] w fun e w' => e = .returned (.tuple #[.slice none 0 0, iv 22]) ∧ w' = w := by
  have HC := Lib.hid (find_no h s)
  clear h
  go_enter Try.func15, Try.ntmps15
  go_wp2_with fail
  refine HC.out.mono ?_
  rintro e w1 ⟨rfl, rfl⟩
  go_wp2
  exact bodyPost_ret (results2 rfl (res_tmp rfl) (res_tmp rfl)) rfl ⟨rfl, rfl⟩
set_option maxRecDepth 100000 in
theorem size_no (h : ND w v) (s : Nm) : Calls Try.prog 19 #[v, sk s] w fun e w' => e = .returned (.tuple #[iv 0, iv 22]) ∧ w' = w := by
  have HC := Lib.hid (find_no h s)
  clear h
  go_enter Try.func19, Try.ntmps19
  go_wp2_with fail
  refine HC.out.mono ?_
  rintro e w1 ⟨rfl, rfl⟩
  go_wp2
  exact bodyPost_ret (results2 rfl (res_tmp rfl) (res_tmp rfl)) rfl ⟨rfl, rfl⟩
set_option maxRecDepth 100000 in
theorem list_no (h : ND w v) : Calls Try.prog 20 #[v] w fun e w' => e = .returned (.tuple #[.slice none 0 0, iv 22]) ∧ w' = w := by
  have HC := Lib.hid (on_no h)
  clear h
  go_enter Try.func20, Try.ntmps20
  go_wp2_with fail
  refine HC.out.mono ?_
  rintro e w1 ⟨rfl, rfl⟩
  go_wp2
  exact bodyPost_ret (results2 rfl (res_tmp rfl) (res_tmp rfl)) rfl ⟨rfl, rfl⟩
set_option maxRecDepth 100000 in
theorem create_no (h : ND w v) (s : Nm) : Calls Try.prog 9 #[v, sk s] w fun e w' => e = .returned (iv 22) ∧ w' = w := by
  have HC := Lib.hid (find_no h s)
  clear h
  go_enter Try.func9, Try.ntmps9
  go_wp2_with fail
  refine HC.out.mono ?_
  rintro e w1 ⟨rfl, rfl⟩
  go_wp2
  exact bodyPost_ret (results_tmp rfl _ _ _) rfl ⟨rfl, rfl⟩
set_option maxRecDepth 100000 in
theorem sync_no (h : ND w v) (s : Nm) : Calls Try.prog 11 #[v, sk s] w fun e w' => e = .returned (iv 22) ∧ w' = w := by
  have HC := Lib.hid (find_no h s)
  clear h
  go_enter Try.func11, Try.ntmps11
  go_wp2_with fail
  refine HC.out.mono ?_
  rintro e w1 ⟨rfl, rfl⟩
  go_wp2
  exact bodyPost_ret (results_tmp rfl _ _ _) rfl ⟨rfl, rfl⟩
set_option maxRecDepth 100000 in
theorem cut_no (h : ND w v) (s : Nm) (n : Int) : Calls Try.prog 22 #[v, sk s, iv n] w fun e w' => e = .returned (iv 22) ∧ w' = w := by
  have HC := Lib.hid (find_no h s)
  clear h
  go_enter Try.func22, Try.ntmps22
  go_wp2_with fail
  refine HC.out.mono ?_
  rintro e w1 ⟨rfl, rfl⟩
  go_wp2
  exact bodyPost_ret (results_tmp rfl _ _ _) rfl ⟨rfl, rfl⟩
set_option maxRecDepth 100000 in
theorem rename_no (h : ND w v) (s t : Nm) : Calls Try.prog 12 #[v, sk s, sk t] w fun e w' => e = .returned (iv 22) ∧ w' = w := by
  have HC := Lib.hid (find_no h s)
  clear h
  go_enter Try.func12, Try.ntmps12
  go_wp2_with fail
  refine HC.out.mono ?_
  rintro e w1 ⟨rfl, rfl⟩
  go_wp2
  exact bodyPost_ret (results_tmp rfl _ _ _) rfl ⟨rfl, rfl⟩
set_option maxRecDepth 100000 in
theorem remove_no (h : ND w v) (s : Nm) : Calls Try.prog 13 #[v, sk s] w fun e w' => e = .returned (iv 22) ∧ w' = w := by
  have HC := Lib.hid (find_no h s)
  clear h
  go_enter Try.func13, Try.ntmps13
  go_wp2_with fail
  refine HC.out.mono ?_
  rintro e w1 ⟨rfl, rfl⟩
  go_wp2
  exact bodyPost_ret (results_tmp rfl _ _ _) rfl ⟨rfl, rfl⟩
set_option maxRecDepth 100000 in
theorem sdir_no (h : ND w v) : Calls Try.prog 14 #[v] w fun e w' => e = .returned (iv 22) ∧ w' = w := by
  have HC := Lib.hid (on_no h)
  clear h
  go_enter Try.func14, Try.ntmps14
  go_wp2_with fail
  refine HC.out.mono ?_
  rintro e w1 ⟨rfl, rfl⟩
  go_wp2
  exact bodyPost_ret (results_tmp rfl _ _ _) rfl ⟨rfl, rfl⟩
set_option maxRecDepth 100000 in
theorem append_no (h : ND w v) (s : Nm) (u : Value) : Calls Try.prog 10 #[v, sk s, u] w fun e w' => e = .returned (.tuple #[iv 0, iv 22]) ∧ w' = w := by
  have HC := Lib.hid (find_no h s)
  clear h
  go_enter Try.func10, Try.ntmps10
  go_wp2_with fail
  refine HC.out.mono ?_
  rintro e w1 ⟨rfl, rfl⟩
  go_wp2
  exact bodyPost_ret (results2 rfl (res_tmp rfl) (res_tmp rfl)) rfl ⟨rfl, rfl⟩
set_option maxRecDepth 100000 in
theorem arm_no (h : ND w v) (u : Value) : Calls Try.prog 23 #[v, u] w fun e w' => e = .returned (iv 22) ∧ w' = w := by
  rcases h with rfl | ⟨d, rfl, hb⟩
  · go_enter Try.func23, Try.ntmps23
    go_wp2
    exact bodyPost_ret (results_tmp rfl _ _ _) rfl ⟨rfl, rfl⟩
  · have x0 := hb.cell 0
    have x5 := hb.cell 5
    have xl := hb.lt
    simp [zcells] at x0 x5
    clear hb
    go_enter Try.func23, Try.ntmps23
    go_wp2
    exact bodyPost_ret (results_tmp rfl _ _ _) rfl ⟨rfl, rfl⟩
set_option maxRecDepth 100000 in
theorem copy_no (h : ND w v) : Calls Try.prog 25 #[v] w fun e w' => e = .returned (.pointer none) ∧ w' = w := by
  rcases h with rfl | ⟨d, rfl, hb⟩
  · go_enter Try.func25, Try.ntmps25
    go_wp2
    exact bodyPost_ret (results_tmp rfl _ _ _) rfl ⟨rfl, rfl⟩
  · have x0 := hb.cell 0
    have x5 := hb.cell 5
    have xl := hb.lt
    simp [zcells] at x0 x5
    clear hb
    go_enter Try.func25, Try.ntmps25
    go_wp2
    exact bodyPost_ret (results_tmp rfl _ _ _) rfl ⟨rfl, rfl⟩
set_option maxRecDepth 100000 in
theorem pending_no (h : ND w v) : Calls Try.prog 26 #[v] w fun e w' => e = .returned (iv 0) ∧ w' = w := by
  rcases h with rfl | ⟨d, rfl, hb⟩
  · go_enter Try.func26, Try.ntmps26
    go_wp2
    exact bodyPost_ret (results_tmp rfl _ _ _) rfl ⟨rfl, rfl⟩
  · have x0 := hb.cell 0
    have x5 := hb.cell 5
    have xl := hb.lt
    simp [zcells] at x0 x5
    clear hb
    go_enter Try.func26, Try.ntmps26
    go_wp2
    exact bodyPost_ret (results_tmp rfl _ _ _) rfl ⟨rfl, rfl⟩
set_option maxRecDepth 100000 in
theorem crash_no (h : ND w v) (a b : Value) : Calls Try.prog 21 #[v, .agg #[a, b]] w fun e w' => (∃ u, e = .returned u) ∧ Only [] w w' := by
  rcases h with rfl | ⟨d, rfl, hb⟩
  · go_enter Try.func21, Try.ntmps21
    go_wp2
    exact bodyPost_ret (results_none rfl _ _ _) rfl ⟨⟨_, rfl⟩, (Only.refl [] w).alloc _⟩
  · have hb := (hb.alloc (.cells #[a, b] 33))
    have x0 := hb.cell 0
    have xl := hb.lt
    simp [zcells] at x0
    clear hb
    go_enter Try.func21, Try.ntmps21
    go_wp2
    exact bodyPost_ret (results_none rfl _ _ _) rfl ⟨⟨_, rfl⟩, (Only.refl [] w).alloc _⟩
set_option maxRecDepth 100000 in
set_option maxHeartbeats 1600000 in
theorem count_no (h : ND w v) : Calls Try.prog 8 #[v] w fun e w' => e = .returned (.agg #[iv 0, iv 0, iv 0, iv 0, iv 0, iv 0, iv 0, iv 0, iv 0]) ∧ Only [] w w' := by
  rcases h with rfl | ⟨d, rfl, hb⟩
  · go_enter Try.func8, Try.ntmps8
    go_wp2_with (refine wpList_store_blk (g := w.heap.size) (k := 0) rfl 37 (.tmp 2) (.tmp 5) rfl [iv 0, iv 0, iv 0, iv 0, iv 0, iv 0, iv 0, iv 0, iv 0] rfl rfl (Blk.new w 37 #[iv 0, iv 0, iv 0, iv 0, iv 0, iv 0, iv 0, iv 0, iv 0]) (by kernel_rfl) (by simp) (by simp [Value.oneCell']) ?_)
    intro w2 hB hO
    have HB := Lib.hid (show Blk w2 w.heap.size 37 #[iv 0, iv 0, iv 0, iv 0, iv 0, iv 0, iv 0, iv 0, iv 0] by simpa using hB)
    have HO := Lib.hid (only_new hO)
    clear hB hO
    go_wp2
    exact bodyPost_ret (results1 rfl (res_blk (cs := [iv 0, iv 0, iv 0, iv 0, iv 0, iv 0, iv 0, iv 0, iv 0]) Try.underlying37 (by kernel_rfl) rfl HB.out)) rfl ⟨rfl, HO.out⟩
  · have hb := hb.alloc (.cells #[iv 0, iv 0, iv 0, iv 0, iv 0, iv 0, iv 0, iv 0, iv 0] 37)
    have x6 := hb.cell 6
    have x7 := hb.cell 7
    have x8 := hb.cell 8
    have x9 := hb.cell 9
    have x10 := hb.cell 10
    have x11 := hb.cell 11
    have x12 := hb.cell 12
    have x13 := hb.cell 13
    have x14 := hb.cell 14
    have xl := hb.lt
    simp [zcells] at x6 x7 x8 x9 x10 x11 x12 x13 x14
    clear hb
    go_enter Try.func8, Try.ntmps8
    go_wp2_with (refine wpList_store_blk (g := w.heap.size) (k := 0) rfl 37 (.tmp 2) (.tmp 9) rfl [iv 0, iv 0, iv 0, iv 0, iv 0, iv 0, iv 0, iv 0, iv 0] rfl rfl (Blk.new w 37 #[iv 0, iv 0, iv 0, iv 0, iv 0, iv 0, iv 0, iv 0, iv 0]) (by kernel_rfl) (by simp) (by simp [Value.oneCell']) ?_)
    intro w2 hB hO
    have HB := Lib.hid (show Blk w2 w.heap.size 37 #[iv 0, iv 0, iv 0, iv 0, iv 0, iv 0, iv 0, iv 0, iv 0] by simpa using hB)
    have HO := Lib.hid (only_new hO)
    clear hB hO x6 x7 x8 x9 x10 x11 x12 x13 x14 xl
    go_wp2
    exact bodyPost_ret (results1 rfl (res_blk (cs := [iv 0, iv 0, iv 0, iv 0, iv 0, iv 0, iv 0, iv 0, iv 0]) Try.underlying37 (by kernel_rfl) rfl HB.out)) rfl ⟨rfl, HO.out⟩
set_option maxHeartbeats 1600000 in
/-- The names of no directory. -/
theorem names_nil (w : World) : Calls Try.prog 42 #[.map none] w fun e w' => ∃ v, e = .returned v ∧ Sl w' 9 1 v 0 [] ∧ Only [] w w' ∧ ∀ g, v.ownBlock = some g → w.heap.size ≤ g := by
  have hseq : SeqGives Fence.wide 2 Try.prog 57 #[.pointer (some ⟨w.heap.size, 0, none⟩)] encStr (fun ss : List (List UInt8) => ss = []) 0 (w.alloc (.cells #[.map none] 56)) :=
    AnyZ.keys_gives_nil (ρ := Try.keysD_ren) { Try.keysD with } Fence.wide _ trivial rfl w.heap.size _ (by simp) (by simp)
  have cK : ∀ mb W, CallsIn Fence.wide 5 Try.prog 53 #[.map mb] W fun e w' => e = .returned (.func (.func 57) #[] #[.pointer (some ⟨W.heap.size, 0, none⟩)]) ∧ w' = W.alloc (.cells #[.map mb] 56) := fun mb W => AnyZ.keys_in Try.keysD Fence.wide 5 trivial rfl mb W
  have cS := AnyZ.sorted_in Try.sortedD Fence.wide 5 trivial trivial trivial trivial rfl (by omega) (sortsD _) (enters_of Try.func56 (by kernel_rfl) rfl) 57 #[.pointer (some ⟨w.heap.size, 0, none⟩)] trivial (enters_of Try.func57 (by kernel_rfl) rfl) _ _ (Nat.zero_le _) (by omega) _ hseq
  change CallsIn _ _ Try.prog 52 _ _ _ at cS
  have hfK : Fence.wide.fn 53 := trivial
  have hfS : Fence.wide.fn 52 := trivial
  clear hseq
  refine (callsIn_wide (n := 6)).1 ?_
  refine callsIn_of_wp Try.func42 rfl trivial ?_ rfl
  simp only [Try.ntmps42, List.size_toArray, List.length_cons, List.length_nil, Nat.reduceAdd, Nat.reduceSub, Array.replicate_succ, Array.replicate_zero, List.push_toArray, List.append_toArray, List.nil_append, List.cons_append]
  gi_wp2_with (first
    | (gi_at_call 53; refine (cK _ _).mono ?_; rintro e w' ⟨rfl, rfl⟩)
    | (gi_at_call 52; refine cS.mono ?_; rintro e w' ⟨v, ss, rfl, hS, hrow, hnil, hb⟩))
  go_ret
  have hS : ss = [] := hS
  subst hS
  have hbel : Below w.heap.size w w' := ((Below.refl _ w).alloc (Nat.le_refl _) _).trans (hb.mono (by simp))
  have hs := Sl.of_own hrow
  simp at hs
  refine ⟨v, rfl, hs, Only.of_below hbel _, fun g hg => ?_⟩
  rcases hrow.2 with ⟨e, _⟩ | ⟨g', cap, cur, e, hge, _⟩
  · rw [e] at hg; cases hg
  · rw [e] at hg
    injection hg with hg
    have hg2 : g' = g := hg
    simp at hge
    omega
set_option maxRecDepth 100000 in
set_option maxHeartbeats 1600000 in
theorem after_zero {d : Nat} (hb : Blk w d 59 zcells) (n : Int) : Calls Try.prog 43 #[cp d, iv n] w fun e w' => ∃ b, e = .returned (.map (some b)) ∧ DMap w' b [] ∧ Only [] w w' := by
  have hb0 := hb
  have hb := (hb.alloc (.map #[] 0))
  have x4 := hb.cell 4
  have xl := hb.lt
  simp [zcells] at x4
  have hrg := run_range_nilMap (P := Try.prog) (w.alloc (.map #[] 0)) 56 9 78 Try.underlying56
  have hnx : ∀ ty, (Instr.next (.pointer (some ⟨(w.alloc (.map #[] 0)).heap.size, 0, none⟩)) false ty).run Try.prog ((w.alloc (.map #[] 0)).alloc (.mapIter none 0 #[] 0)) = _ := fun ty => run_next_nilMap _ ty 0 0 #[]
  have x5 := hb.cell 5
  simp [zcells] at x5
  have hmk : ∀ w, (Instr.makeMap 56 none).run Try.prog w = .ok (.map (some w.heap.size)) (w.alloc (.map #[] 0)) := fun _ => rfl
  have HB1 := Lib.hid (hb.alloc (.mapIter none 0 #[] 0))
  have HDA := Lib.hid ((DMap.new w).keep (Below.heap_alloc _ (.mapIter none 0 #[] 0) _ (by simp)))
  have HO := Lib.hid (((Only.refl [] w).alloc (.map #[] 0)).alloc (.mapIter none 0 #[] 0))
  clear hb
  go_enter Try.func43, Try.ntmps43
  go_wp2
  go_loopw [] (fun wr => wr = (w.alloc (.map #[] 0)).alloc (.mapIter none 0 #[] 0)) (fun _ => 0)
  case atStart => rfl
  case round =>
    subst hrel
    simp at hnx
    have y5 := HB1.out.cell 5
    have yl := HB1.out.lt
    simp [zcells] at y5
    go_wp2
    go_loopw [29] (fun z wr => z = .int .i64 0 ∧ wr = (w.alloc (.map #[] 0)).alloc (.mapIter none 0 #[] 0)) (fun _ _ => 0)
    case atStart => exact ⟨rfl, rfl⟩
    case round =>
      obtain ⟨rfl, rfl⟩ := hrel
      go_wp2
      exact bodyPost_ret (results_tmp rfl _ _ _) rfl ⟨_, rfl, HDA.out, HO.out⟩
set_option maxRecDepth 100000 in
set_option maxHeartbeats 1600000 in
theorem tails_no (h : ND w v) (n : Int) : Calls Try.prog 29 #[v, iv n] w fun e w' => e = .returned (.slice none 0 0) ∧ Only [] w w' := by
  rcases h with rfl | ⟨d, rfl, hb⟩
  · go_enter Try.func29, Try.ntmps29
    go_wp2
    exact bodyPost_ret (results_tmp rfl _ _ _) rfl ⟨rfl, Only.refl _ _⟩
  · have HA := Lib.hid (after_zero hb n)
    clear hb
    go_enter Try.func29, Try.ntmps29
    go_wp2_with fail
    refine HA.out.mono ?_
    rintro e w1 ⟨b, rfl, hd, ho⟩
    have HN := Lib.hid (names_ok hd (fun x hx => by cases hx) (by simp))
    have HO := Lib.hid ho
    clear hd ho
    go_wp2_with fail
    refine HN.out.mono ?_
    rintro e w2 ⟨u, rfl, hs, ho, _⟩
    obtain ⟨ua, uc, hu, _, _⟩ := hs.shape
    subst hu
    have HO2 := Lib.hid (HO.out.trans ho)
    clear hs ho
    go_wp2
    go_loopw [5, 17] (fun l z wr => l = .slice none 0 0 ∧ z = .int .i64 0 ∧ wr = w2) (fun _ _ _ => 0)
    case atStart => exact ⟨rfl, rfl, rfl⟩
    case round =>
      obtain ⟨rfl, rfl, rfl⟩ := hrel
      go_wp2
      exact bodyPost_ret (results_tmp rfl _ _ _) rfl ⟨rfl, HO2.out⟩
set_option maxRecDepth 100000 in
set_option maxHeartbeats 1600000 in
theorem files_no (h : ND w v) : Calls Try.prog 27 #[v] w fun e w' => e = .returned (.slice none 0 0) ∧ Only [] w w' := by
  rcases h with rfl | ⟨d, rfl, hb⟩
  · go_enter Try.func27, Try.ntmps27
    go_wp2
    exact bodyPost_ret (results_tmp rfl _ _ _) rfl ⟨rfl, Only.refl _ _⟩
  · have HN := Lib.hid (names_nil w)
    have x := hb.cell 3
    have xl := hb.lt
    simp [zcells] at x
    clear hb
    go_enter Try.func27, Try.ntmps27
    go_wp2_with fail
    refine HN.out.mono ?_
    rintro e w2 ⟨u, rfl, hs, ho, _⟩
    obtain ⟨ua, uc, hu, _, _⟩ := hs.shape
    subst hu
    have HO2 := Lib.hid ho
    clear hs ho
    go_wp2
    go_loopw [3, 14] (fun l z wr => l = .slice none 0 0 ∧ z = .int .i64 0 ∧ wr = w2) (fun _ _ _ => 0)
    case atStart => exact ⟨rfl, rfl, rfl⟩
    case round =>
      obtain ⟨rfl, rfl, rfl⟩ := hrel
      go_wp2
      exact bodyPost_ret (results_tmp rfl _ _ _) rfl ⟨rfl, HO2.out⟩
set_option maxRecDepth 100000 in
set_option maxHeartbeats 1600000 in
theorem lasting_no (h : ND w v) : Calls Try.prog 28 #[v] w fun e w' => e = .returned (.slice none 0 0) ∧ Only [] w w' := by
  rcases h with rfl | ⟨d, rfl, hb⟩
  · go_enter Try.func28, Try.ntmps28
    go_wp2
    exact bodyPost_ret (results_tmp rfl _ _ _) rfl ⟨rfl, Only.refl _ _⟩
  · have HN := Lib.hid (names_nil w)
    have x := hb.cell 4
    have xl := hb.lt
    simp [zcells] at x
    clear hb
    go_enter Try.func28, Try.ntmps28
    go_wp2_with fail
    refine HN.out.mono ?_
    rintro e w2 ⟨u, rfl, hs, ho, _⟩
    obtain ⟨ua, uc, hu, _, _⟩ := hs.shape
    subst hu
    have HO2 := Lib.hid ho
    clear hs ho
    go_wp2
    go_loopw [3, 14] (fun l z wr => l = .slice none 0 0 ∧ z = .int .i64 0 ∧ wr = w2) (fun _ _ _ => 0)
    case atStart => exact ⟨rfl, rfl, rfl⟩
    case round =>
      obtain ⟨rfl, rfl, rfl⟩ := hrel
      go_wp2
      exact bodyPost_ret (results_tmp rfl _ _ _) rfl ⟨rfl, HO2.out⟩
end
end Go.Proofs.Ythekilgolelomaa
