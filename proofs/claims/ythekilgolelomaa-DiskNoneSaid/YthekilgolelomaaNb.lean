/-
  DiskNone: its walk.
-/
import Derived.Test.YthekilgolelomaaNa
import Derived.Test.YthekilgolelomaaOb
import Derived.Test.YthekilgolelomaaDw
set_option linter.unusedSimpArgs false
set_option linter.unusedVariables false
namespace Go.Proofs.Ythekilgolelomaa
open Go.RowKit Go.Fl Go.ChangeShapes Go.WideShapes Go.Deep

set_option maxRecDepth 100000 in
/-- A call on a disk, as an argument. -/
theorem open_op {H : Type} {enc : TypeId × Value → H} {w : World} {r : Reach} {b0 : Nat} {v : Value} {d : DataW H} {ps : List MemPlace} (hval : Value.okWide Try.prog w r b0 35 v) (h : DataW.Trod enc Try.prog w 0 (fun _ => true) true 35 v d ps) :
    ∃ o : OpA, v = .agg o.cells.toArray ∧ o.In w := by
  obtain ⟨cs, rfl, _⟩ := okWide_struct Try.underlying35 hval
  obtain ⟨fuel, h⟩ := h
  obtain ⟨o, e, ho⟩ := trod_op h
  simp only [Value.cells] at e
  exact ⟨o, by congr 1; apply Array.ext'; rw [e], ho⟩
theorem opc {w : World} {ob t : Nat} {a b c d e f g h i j : Value} (hb : Blk w ob t #[a, b, c, d, e, f, g, h, i, j]) : w.cell? ⟨ob, 2, none⟩ = some c ∧ w.cell? ⟨ob, 3, none⟩ = some d ∧ w.cell? ⟨ob, 4, none⟩ = some e ∧ w.cell? ⟨ob, 5, none⟩ = some f ∧ w.cell? ⟨ob, 6, none⟩ = some g ∧ w.cell? ⟨ob, 8, none⟩ = some i ∧ w.cell? ⟨ob, 9, none⟩ = some j :=
  ⟨hb.cell 2, hb.cell 3, hb.cell 4, hb.cell 5, hb.cell 6, hb.cell 8, hb.cell 9⟩
set_option maxRecDepth 100000 in
set_option maxHeartbeats 6400000 in
theorem none_walk (w : World) (x : OpA) (_ : x.In w) : Calls Try.prog 5 #[.agg x.cells.toArray] w fun e w' => e = .returned (.bool true) ∧ Only [] w w' := by
  obtain ⟨kind, sec, name, nto, dv, data, off, n, fv, faults, dir, kv, kj⟩ := x
  unfold OpA.cells
  dsimp only
  go_enter Try.func5, Try.ntmps5
  go_wp2_with fail
  refine (begun_ok _).mono ?_
  rintro e w1 ⟨rfl, ho⟩
  obtain ⟨ob, hob⟩ : ∃ ob, w.heap.size = ob := ⟨_, rfl⟩
  have HB1 := Lib.hid ((Blk.new w 35 #[iv kind, .bool sec, sk name, sk nto, dv, iv off, iv n, fv, iv dir, kv]).only ho (by simp))
  have HO1 := Lib.hid (((Only.refl [] w).alloc (.cells #[iv kind, .bool sec, sk name, sk nto, dv, iv off, iv n, fv, iv dir, kv] 35)).trans ho)
  rw [hob] at HB1 ⊢
  have bl := HB1.out.lt
  clear ho hob
  go_wp2
  obtain ⟨w2, hw2⟩ : ∃ w2, w1.alloc (.cells zcells 59) = w2 := ⟨_, rfl⟩
  obtain ⟨zb, hzb⟩ : ∃ zb, w1.heap.size = zb := ⟨_, rfl⟩
  have hz2 : w2.heap.size = zb + 1 := by rw [← hw2, ← hzb]; simp
  have HZ1 := Lib.hid (show Blk (w2.alloc (.cells #[.pointer none, cp zb] 24)) zb 59 zcells from (by rw [← hw2, ← hzb]; exact (Blk.new w1 _ _).alloc _))
  have HS1 := Lib.hid (show Blk (w2.alloc (.cells #[.pointer none, cp zb] 24)) (zb + 1) 24 #[.pointer none, cp zb] from (by rw [← hz2]; exact Blk.new w2 _ _))
  have HO2 := Lib.hid (show Only [] w (w2.alloc (.cells #[.pointer none, cp zb] 24)) from (by rw [← hw2]; exact (HO1.out.alloc _).alloc _))
  have HB2 := Lib.hid (show Blk (w2.alloc (.cells #[.pointer none, cp zb] 24)) ob 35 #[iv kind, .bool sec, sk name, sk nto, dv, iv off, iv n, fv, iv dir, kv] from (by rw [← hw2]; exact (HB1.out.alloc _).alloc _))
  unfold zcells at hw2
  rw [hw2, hzb]
  obtain ⟨sb, hsb⟩ : ∃ sb, zb + 1 = sb := ⟨_, rfl⟩
  rw [hsb] at HS1 ⊢
  obtain ⟨w3, hw3⟩ : ∃ w3, w2.alloc (.cells #[.pointer none, cp zb] 24) = w3 := ⟨_, rfl⟩
  rw [hw3] at HZ1 HS1 HO2 HB2 ⊢
  clear hw2 hzb hz2 hsb hw3 HB1 HO1 bl
  go_loopw [5] (fun i wr => ∃ k : Nat, k ≤ 2 ∧ i = .int .i64 k ∧ Hid (Blk wr ob 35 #[iv kind, .bool sec, sk name, sk nto, dv, iv off, iv n, fv, iv dir, kv]) ∧ Hid (Blk wr sb 24 #[.pointer none, cp zb]) ∧ Hid (Blk wr zb 59 zcells) ∧ Hid (Only [] w wr)) (fun i _ => 2 - (intOf i).toNat)
  case atStart => exact ⟨0, by decide, rfl, HB2, HS1, HZ1, HO2⟩
  clear HB2 HS1 HZ1 HO2
  case round =>
    obtain ⟨k, hk, rfl, HB, HS, HZ, HO⟩ := hrel
    by_cases hk2 : k < 2
    case neg =>
      have hkz : ¬ (k : Int) < 2 := by omega
      clear hk hk2
      go_wp2
      exact bodyPost_ret (results_tmp rfl _ _ _) rfl ⟨rfl, HO.out⟩
    have hkz : (k : Int) < 2 := by omega
    obtain ⟨v, hv, HN⟩ : ∃ v, wr.cell? ⟨sb, k, none⟩ = some v ∧ Hid (ND wr v) := by
      rcases (show k = 0 ∨ k = 1 by omega) with rfl | rfl
      · exact ⟨.pointer none, HS.out.cell 0, Lib.hid (.inl rfl)⟩
      · exact ⟨cp zb, HS.out.cell 1, Lib.hid (.inr ⟨zb, rfl, HZ.out⟩)⟩
    have HK := Lib.hid hk2
    have bl := HB.out.lt
    have sl := HS.out.lt
    obtain ⟨x2, x3, x4, x5, x6, x8, x9⟩ := opc HB.out
    clear hk hk2
    have hq := append_no HN.out name dv
    go_wp2_with fail
    refine hq.mono ?_
    clear hq
    rintro e w1 ⟨rfl, rfl⟩
    have hq := read_no HN.out name off n
    go_wp2_with fail
    refine hq.mono ?_
    clear hq
    rintro e w1 ⟨rfl, rfl⟩
    have hq := size_no HN.out name
    go_wp2_with fail
    refine hq.mono ?_
    clear hq
    rintro e w1 ⟨rfl, rfl⟩
    have hq := list_no HN.out
    go_wp2_with fail
    refine hq.mono ?_
    clear hq
    rintro e w1 ⟨rfl, rfl⟩
    clear hv sl
    have hq := crash_no HN.out (iv dir) kv
    go_wp2_with fail
    refine hq.mono ?_
    clear hq
    rintro e wk ⟨⟨u, rfl⟩, ho⟩
    have HB2 := Lib.hid (HB.out.only ho (by simp))
    have HS2 := Lib.hid (HS.out.only ho (by simp))
    have HZ2 := Lib.hid (HZ.out.only ho (by simp))
    have HN2 := Lib.hid (HN.out.only ho)
    have HO2 := Lib.hid (HO.out.trans ho)
    clear bl
    have bl := HB2.out.lt
    clear ho HB HS HZ HN HO
    have HB := HB2
    have HS := HS2
    have HZ := HZ2
    have HN := HN2
    have HO := HO2
    clear HB2 HS2 HZ2 HN2 HO2
    clear x2 x3 x4 x5 x6 x8 x9
    obtain ⟨x2, x3, x4, x5, x6, x8, x9⟩ := opc HB.out
    have hq := create_no HN.out name
    go_wp2_with fail
    refine hq.mono ?_
    clear hq
    rintro e w1 ⟨rfl, rfl⟩
    have hq := sync_no HN.out name
    go_wp2_with fail
    refine hq.mono ?_
    clear hq
    rintro e w1 ⟨rfl, rfl⟩
    have hq := cut_no HN.out name n
    go_wp2_with fail
    refine hq.mono ?_
    clear hq
    rintro e w1 ⟨rfl, rfl⟩
    have hq := rename_no HN.out name nto
    go_wp2_with fail
    refine hq.mono ?_
    clear hq
    rintro e w1 ⟨rfl, rfl⟩
    have hq := remove_no HN.out name
    go_wp2_with fail
    refine hq.mono ?_
    clear hq
    rintro e w1 ⟨rfl, rfl⟩
    have hq := sdir_no HN.out
    go_wp2_with fail
    refine hq.mono ?_
    clear hq
    rintro e w1 ⟨rfl, rfl⟩
    have hq := arm_no HN.out (.slice none 0 0)
    go_wp2_with fail
    refine hq.mono ?_
    clear hq
    rintro e w1 ⟨rfl, rfl⟩
    have hq := up_no HN.out
    go_wp2_with fail
    refine hq.mono ?_
    clear hq
    rintro e w1 ⟨rfl, rfl⟩
    have hq := copy_no HN.out
    go_wp2_with fail
    refine hq.mono ?_
    clear hq
    rintro e w1 ⟨rfl, rfl⟩
    have hq := pending_no HN.out
    go_wp2_with fail
    refine hq.mono ?_
    clear hq
    rintro e w1 ⟨rfl, rfl⟩
    have hq := files_no HN.out
    go_wp2_with fail
    refine hq.mono ?_
    clear hq
    rintro e wk ⟨rfl, ho⟩
    have HB2 := Lib.hid (HB.out.only ho (by simp))
    have HS2 := Lib.hid (HS.out.only ho (by simp))
    have HZ2 := Lib.hid (HZ.out.only ho (by simp))
    have HN2 := Lib.hid (HN.out.only ho)
    have HO2 := Lib.hid (HO.out.trans ho)
    clear bl
    have bl := HB2.out.lt
    clear ho HB HS HZ HN HO
    have HB := HB2
    have HS := HS2
    have HZ := HZ2
    have HN := HN2
    have HO := HO2
    clear HB2 HS2 HZ2 HN2 HO2
    clear x2 x3 x4 x5 x6 x8 x9
    obtain ⟨x2, x3, x4, x5, x6, x8, x9⟩ := opc HB.out
    have hq := lasting_no HN.out
    go_wp2_with fail
    refine hq.mono ?_
    clear hq
    rintro e wk ⟨rfl, ho⟩
    have HB2 := Lib.hid (HB.out.only ho (by simp))
    have HS2 := Lib.hid (HS.out.only ho (by simp))
    have HZ2 := Lib.hid (HZ.out.only ho (by simp))
    have HN2 := Lib.hid (HN.out.only ho)
    have HO2 := Lib.hid (HO.out.trans ho)
    clear bl
    have bl := HB2.out.lt
    clear ho HB HS HZ HN HO
    have HB := HB2
    have HS := HS2
    have HZ := HZ2
    have HN := HN2
    have HO := HO2
    clear HB2 HS2 HZ2 HN2 HO2
    clear x2 x3 x4 x5 x6 x8 x9
    obtain ⟨x2, x3, x4, x5, x6, x8, x9⟩ := opc HB.out
    have hq := tails_no HN.out n
    go_wp2_with fail
    refine hq.mono ?_
    clear hq
    rintro e wk ⟨rfl, ho⟩
    have HB2 := Lib.hid (HB.out.only ho (by simp))
    have HS2 := Lib.hid (HS.out.only ho (by simp))
    have HZ2 := Lib.hid (HZ.out.only ho (by simp))
    have HN2 := Lib.hid (HN.out.only ho)
    have HO2 := Lib.hid (HO.out.trans ho)
    clear bl
    have bl := HB2.out.lt
    clear ho HB HS HZ HN HO
    have HB := HB2
    have HS := HS2
    have HZ := HZ2
    have HN := HN2
    have HO := HO2
    clear HB2 HS2 HZ2 HN2 HO2
    clear x2 x3 x4 x5 x6 x8 x9
    obtain ⟨x2, x3, x4, x5, x6, x8, x9⟩ := opc HB.out
    have hq := count_no HN.out
    go_wp2_with fail
    refine hq.mono ?_
    clear hq
    rintro e wk ⟨rfl, ho⟩
    have HB2 := Lib.hid (HB.out.only ho (by simp))
    have HS2 := Lib.hid (HS.out.only ho (by simp))
    have HZ2 := Lib.hid (HZ.out.only ho (by simp))
    have HN2 := Lib.hid (HN.out.only ho)
    have HO2 := Lib.hid (HO.out.trans ho)
    clear bl
    have bl := HB2.out.lt
    clear ho HB HS HZ HN HO
    have HB := HB2
    have HS := HS2
    have HZ := HZ2
    have HN := HN2
    have HO := HO2
    clear HB2 HS2 HZ2 HN2 HO2
    clear x2 x3 x4 x5 x6 x8 x9
    obtain ⟨x2, x3, x4, x5, x6, x8, x9⟩ := opc HB.out
    clear x2 x3 x4 x5 x6 x8 x9 bl
    have HMS := Lib.hid (meas HK.out)
    have HK2 := Lib.hid (show k + 1 ≤ 2 from HK.out)
    go_wp2
    go_roundw
    case measure => exact HMS.out
    case rel => exact ⟨k + 1, HK2.out, rfl, HB, HS, HZ, HO⟩
end Go.Proofs.Ythekilgolelomaa
