/-
  Package crash: the fate with a number.
-/
import Derived.Test.YthekilgolelomaaLa
import Derived.Laws.MakeOwn
set_option linter.unusedSimpArgs false
set_option linter.unusedVariables false
namespace Go.Proofs.Ythekilgolelomaa
open Go.RowKit Go.Fl

/-- The digits of a number, the last ones first taken. -/
def digM : List Nat → Nat → List Nat × Nat
  | [], i => ([], i)
  | t :: l, i => ((digM l i).2 % (t + 1) :: (digM l i).1, (digM l i).2 / (t + 1))
theorem digM_len : ∀ (l : List Nat) (i : Nat), (digM l i).1.length = l.length
  | [], _ => rfl
  | t :: l, i => by
    show ((digM l i).1.length + 1) = l.length + 1
    rw [digM_len l i]
theorem digM_drop {l : List Nat} {k i : Nat} (hk : k < l.length) : digM (l.drop k) i = ((digM (l.drop (k + 1)) i).2 % (l[k] + 1) :: (digM (l.drop (k + 1)) i).1, (digM (l.drop (k + 1)) i).2 / (l[k] + 1)) := by
  rw [List.drop_eq_getElem_cons hk]
  rfl
/-- Keeps' cells. -/
def kcl (l : List Nat) : List Value := (l.map fun (d : Nat) => [iv (d : Int), .slice none 0 0]).flatten
theorem kcl_append (a b : List Nat) : kcl (a ++ b) = kcl a ++ kcl b := by
  unfold kcl
  rw [List.map_append, List.flatten_append]
theorem kcl_len (l : List Nat) : (kcl l).length = l.length * 2 := by
  unfold kcl
  induction l with
  | nil => rfl
  | cons x l ih => simp [ih]; omega
theorem kcl_set (k : Nat) (ds : List Nat) (d : Nat) : (kcl (List.replicate (k + 1) 0 ++ ds)).toArray.setIfInBounds (k * 2) (iv d) = (kcl (List.replicate k 0 ++ d :: ds)).toArray := by
  have h1 : List.replicate (k + 1) 0 ++ ds = List.replicate k 0 ++ 0 :: ds := by
    rw [List.replicate_succ']
    simp
  rw [h1, kcl_append, kcl_append]
  apply Array.ext'
  rw [List.setIfInBounds_toArray]
  have hl : (kcl (List.replicate k 0)).length = k * 2 := by rw [kcl_len, List.length_replicate]
  show (kcl (List.replicate k 0) ++ kcl (0 :: ds)).set (k * 2) (iv d) = kcl (List.replicate k 0) ++ kcl (d :: ds)
  have h2 := List.set_append_right (s := kcl (List.replicate k 0)) (t := kcl (0 :: ds)) (k * 2) (iv d) (by omega)
  rw [hl, Nat.sub_self] at h2
  exact h2
theorem kcl_at (k : Nat) (ds : List Nat) : (kcl (List.replicate (k + 1) 0 ++ ds)).toArray[k * 2]? = some (iv 0) := by
  have h1 : List.replicate (k + 1) 0 ++ ds = List.replicate k 0 ++ 0 :: ds := by
    rw [List.replicate_succ']
    simp
  rw [h1, kcl_append]
  have hl : (kcl (List.replicate k 0)).length = k * 2 := by rw [kcl_len, List.length_replicate]
  rw [List.getElem?_toArray, List.getElem?_append_right (by omega), hl, Nat.sub_self]
  rfl
theorem made_keeps (N : Nat) : madeCells #[iv 0, .slice none 0 0] (N * 2) = (kcl (List.replicate N 0)).toArray := by
  apply Array.ext_getElem?
  intro i
  have e2 : (kcl (List.replicate N 0)).toArray[i]? = (kcl (List.replicate N 0))[i]? := List.getElem?_toArray
  rw [e2]
  unfold madeCells kcl
  rw [flat_get (k := 2) (by decide) _ (fun y hy => by obtain ⟨o, _, rfl⟩ := List.mem_map.1 hy; rfl), List.map_replicate, List.getElem?_replicate]
  by_cases h : i < N * 2
  · rw [if_pos (by omega)]
    simp [h]
    rcases (show i % 2 = 0 ∨ i % 2 = 1 by omega) with e | e <;> rw [e] <;> rfl
  · rw [if_neg (by omega)]
    simp [h]
theorem info_keep : (Try.prog.info? 75).map (fun i => (i.zero, i.size, i.bytes)) = some (some (.agg #[.int .i64 0, .slice none 0 0]), 2, 32) := by kernel_rfl
theorem make_keeps (N : Nat) (hN : N ≤ 1048576) (u : World) : (Instr.makeSlice 31 (.int .i64 (N : Int)) (.int .i64 (N : Int))).run Try.prog u = .ok (.slice (some ⟨u.heap.size, 0, none⟩) N N) (u.alloc (.cells (kcl (List.replicate N 0)).toArray 75)) := by
  obtain ⟨j4, si, sz0, sz1, sz2⟩ := info_parts info_keep
  have h := run_make (P := Try.prog) u 31 75 j4 (.agg #[.int .i64 0, .slice none 0 0]) Try.underlying31 si sz0 .i64 .i64 (N : Int) (N : Int) (by omega) (Int.le_refl _) (by rw [sz2]; omega) (by omega)
  rw [sz1, Int.toNat_natCast] at h
  have e : (Value.agg #[.int .i64 0, .slice none 0 0]).cells = #[iv 0, .slice none 0 0] := rfl
  rw [e, made_keeps] at h
  exact h
def kjs (ds : List Nat) : List Kp := ds.map fun (x : Nat) => ((x : Int), Value.slice none 0 0, ([] : List UInt8))
theorem ks_of {w : World} {g : Nat} {ds : List Nat} (h : Blk w g 75 (kcl ds).toArray) (hl : ds.length ≤ 1048576) : KS w (.slice (some ⟨g, 0, none⟩) ds.length ds.length) (kjs ds) := by
  refine ⟨?_, fun x hx => ?_⟩
  · have h1 := sl_new (n := ds.length) (size := 2) h (by simp [kcl_len]) (by unfold maxLen; omega)
    have h2 := h1.sr
    unfold kjs kcs
    rw [List.length_map, List.map_map]
    exact h2
  · obtain ⟨y, _, rfl⟩ := List.mem_map.1 hx
    exact Sr.nil _ _
theorem t1_ne (t : Nat) : ¬ ((t : Int) + 1 = 0) := by omega
theorem dg_num {t i : Nat} (ht : t ≤ 1073741824) (hi : i ≤ mostC) : wrap64 ((t : Int) + 1) = (t : Int) + 1 ∧ (i : Int).tmod ((t : Int) + 1) = ((i % (t + 1) : Nat) : Int) ∧ (i : Int).tdiv ((t : Int) + 1) = ((i / (t + 1) : Nat) : Int) ∧ wrap64 ((i : Int).tdiv ((t : Int) + 1)) = ((i / (t + 1) : Nat) : Int) ∧ i / (t + 1) ≤ mostC := by
  have h2 : (i : Int) / ((t : Int) + 1) = ((i / (t + 1) : Nat) : Int) := rfl
  have h4 := Nat.div_le_self i (t + 1)
  have h7 : mostC = 1099511627776 := rfl
  have h5 : (i : Int).tdiv ((t : Int) + 1) = ((i / (t + 1) : Nat) : Int) := by rw [Int.tdiv_eq_ediv_of_nonneg (by omega), h2]
  refine ⟨wrap_d (by omega), by rw [Int.tmod_eq_emod_of_nonneg (by omega)]; rfl, h5, ?_, by omega⟩
  rw [h5]
  generalize i / (t + 1) = x at h4 ⊢
  exact wrap_d (by omega)
theorem meas2 (k : Nat) : (intOf (.int .i64 ((k : Int) - 1)) + 1).toNat < (intOf (.int .i64 (k : Int)) + 1).toNat := by
  show ((k : Int) - 1 + 1).toNat < ((k : Int) + 1).toNat
  omega
theorem sub1 {k N : Nat} (h : k < N) (hN : N ≤ 1048576) : wrap64 ((k : Int) - 1) = (k : Int) - 1 := wrap_d (by omega)
set_option maxRecDepth 100000 in
set_option maxHeartbeats 3200000 in
theorem fate_ok (w : World) (dir : Int) {v : Value} {L : List (Nm × Nat)} (hv : TLs w v L) (hl : L.length ≤ 1048576) (hb : ∀ x ∈ L, x.2 ≤ 1073741824) (i : Nat) (hi : i ≤ mostC) : Calls Try.prog 51 #[iv dir, v, iv i] w fun e w' =>
    ∃ kv, e = .returned (.agg #[iv dir, kv]) ∧ KS w' kv (kjs (digM (tns L) i).1) ∧ Only [] w w' ∧ ∀ g, kv.ownBlock = some g → w.heap.size ≤ g := by
  obtain ⟨va, vc, hvv, hvc, _⟩ := hv.shape
  subst hvv
  have HV := Lib.hid hv
  have HB := Lib.hid hb
  obtain ⟨N, hN⟩ : ∃ N, L.length = N := ⟨_, rfl⟩
  have HN := Lib.hid hN
  have HL := Lib.hid (hN ▸ hl)
  have HI := Lib.hid hi
  rw [hN] at hvc ⊢
  have hmk := make_keeps N (hN ▸ hl)
  clear hv hb hl hN hi
  go_enter Try.func51, Try.ntmps51
  go_upto_region 2 with fail
  obtain ⟨w3, hw3⟩ : ∃ w3, ((w.alloc (.cells #[iv 0, .slice none 0 0] 33)).alloc (.cells (kcl (List.replicate N 0)).toArray 75)).alloc (.cells #[iv dir, .slice (some ⟨w.heap.size + 1, 0, none⟩) N N] 33) = w3 := ⟨_, rfl⟩
  have HR3 := Lib.hid (show Blk w3 w.heap.size 33 #[iv 0, .slice none 0 0] from by rw [← hw3]; exact ((Blk.new w _ _).alloc _).alloc _)
  have HK3 := Lib.hid (show Blk w3 (w.heap.size + 1) 75 (kcl (List.replicate N 0)).toArray from by
    rw [← hw3]
    have := (Blk.new (w.alloc (.cells #[iv 0, .slice none 0 0] 33)) 75 (kcl (List.replicate N 0)).toArray).alloc (.cells #[iv dir, .slice (some ⟨w.heap.size + 1, 0, none⟩) N N] 33)
    simpa using this)
  have HF3 := Lib.hid (show Blk w3 (w.heap.size + 1 + 1) 33 #[iv dir, .slice (some ⟨w.heap.size + 1, 0, none⟩) N N] from by
    rw [← hw3]
    have := Blk.new ((w.alloc (.cells #[iv 0, .slice none 0 0] 33)).alloc (.cells (kcl (List.replicate N 0)).toArray 75)) 33 #[iv dir, .slice (some ⟨w.heap.size + 1, 0, none⟩) N N]
    simpa using this)
  have HO3 := Lib.hid (show Only [] w w3 from by rw [← hw3]; exact (((Only.refl [] w).alloc _).alloc _).alloc _)
  rw [hw3]
  obtain ⟨rb, hrb⟩ : ∃ rb, w.heap.size = rb := ⟨_, rfl⟩
  obtain ⟨kb, hkb⟩ : ∃ kb, rb + 1 = kb := ⟨_, rfl⟩
  obtain ⟨fb, hfb⟩ : ∃ fb, kb + 1 = fb := ⟨_, rfl⟩
  have HNB := Lib.hid (show w.heap.size = rb ∧ rb + 1 = kb ∧ kb + 1 = fb from ⟨hrb, hkb, hfb⟩)
  rw [hrb] at HR3 HK3 HF3 ⊢
  rw [hkb] at HK3 HF3 ⊢
  rw [hfb] at HF3 ⊢
  clear hrb hkb hfb hw3 hmk
  have hsub : wrap64 ((N : Int) - 1) = (N : Int) - 1 := wrap_d (by have := HL.out; omega)
  go_wp2
  go_loopw [2, 8] (fun z2 z8 wr => ∃ (j k : Nat) (z : Int), z2 = .int .i64 j ∧ z8 = .int .i64 z ∧ Hid (z = (k : Int) - 1) ∧ Hid (k ≤ N) ∧ Hid (j = (digM ((tns L).drop k) i).2 ∧ j ≤ mostC) ∧ Hid (Blk wr kb 75 (kcl (List.replicate k 0 ++ (digM ((tns L).drop k) i).1)).toArray) ∧ Hid (Blk wr fb 33 #[iv dir, .slice (some ⟨kb, 0, none⟩) N N]) ∧ Hid (Blk wr rb 33 #[iv 0, .slice none 0 0]) ∧ Hid (Only [] w wr)) (fun _ z8 _ => (intOf z8 + 1).toNat)
  case atStart =>
    have hd : (tns L).drop N = [] := List.drop_eq_nil_of_le (by unfold tns; rw [List.length_map, HN.out]; exact Nat.le_refl _)
    exact ⟨i, N, _, rfl, rfl, Lib.hid (by first | exact hsub | rfl), Lib.hid (Nat.le_refl _), Lib.hid (by rw [hd]; exact ⟨rfl, HI.out⟩), by rw [hd]; simpa [digM] using HK3, HF3, HR3, HO3⟩
  clear HF3 HK3 HR3 HO3 hsub
  case round =>
    obtain ⟨j, k, z, rfl, rfl, HZ, HK, HJ, HB1, HB2, HB3, HO⟩ := hrel
    have x0 := HB2.out.cell 0
    have x1 := HB2.out.cell 1
    have xl := HB2.out.lt
    simp at x0 x1
    cases k with
    | zero =>
      have hz := HZ.out
      have hz0 : z = -1 := by simpa using hz
      subst hz0
      clear hz
      have HKS := Lib.hid (show KS ((wr.setCell ⟨rb, 0, none⟩ (iv dir)).setCell ⟨rb, 1, none⟩ (.slice (some ⟨kb, 0, none⟩) N N)) (.slice (some ⟨kb, 0, none⟩) N N) (kjs (digM (tns L) i).1) from by
        have h1 := (HB1.out.far (p := ⟨rb, 0, none⟩) (by have := HNB.out; show kb ≠ rb; omega) (iv dir)).far (p := ⟨rb, 1, none⟩) (by have := HNB.out; show kb ≠ rb; omega) (.slice (some ⟨kb, 0, none⟩) N N)
        have hl : (digM (tns L) i).1.length = N := by rw [digM_len]; unfold tns; rw [List.length_map, HN.out]
        rw [List.drop_zero, List.replicate_zero, List.nil_append] at h1
        have := ks_of h1 (by rw [hl]; exact HL.out)
        rwa [hl] at this)
      have r0 := HB3.out.cell 0
      have r1 := HB3.out.cell 1
      have rl := HB3.out.lt
      have rf := HB3.out.frozen
      simp at r0 r1
      have HKB := Lib.hid (show ∀ g, (Value.slice (some ⟨kb, 0, none⟩) N N).ownBlock = some g → w.heap.size ≤ g from fun g hg => by
        injection hg with hg
        have hg2 : kb = g := hg
        have := HNB.out
        omega)
      have HWO := Lib.hid (show Only [] w ((wr.setCell ⟨rb, 0, none⟩ (iv dir)).setCell ⟨rb, 1, none⟩ (.slice (some ⟨kb, 0, none⟩) N N)) from (HO.out.setCell (.inr (by have := HNB.out; show w.heap.size ≤ rb; omega)) _).setCell (.inr (by have := HNB.out; show w.heap.size ≤ rb; omega)) _)
      have HBR := Lib.hid (show Blk ((wr.setCell ⟨rb, 0, none⟩ (iv dir)).setCell ⟨rb, 1, none⟩ (.slice (some ⟨kb, 0, none⟩) N N)) rb 33 #[iv dir, .slice (some ⟨kb, 0, none⟩) N N] from by
        have := (HB3.out.set_ 0 (iv dir)).set_ 1 (.slice (some ⟨kb, 0, none⟩) N N)
        simpa using this)
      go_wp2
      exact bodyPost_ret (results1 rfl (res_blk (cs := [iv dir, .slice (some ⟨kb, 0, none⟩) N N]) Try.underlying33 (by kernel_rfl) rfl HBR.out)) rfl ⟨_, rfl, HKS.out, HWO.out, HKB.out⟩
    | succ k =>
      have hz : z = (k : Int) := by have := HZ.out; omega
      subst hz
      have hka : k < L.length := by rw [HN.out]; exact HK.out
      have HVR := Lib.hid (Sr.only0 HV.out HO.out)
      obtain ⟨g, o, c', hv, hfm⟩ := HVR.out.form (by omega)
      injection hv with hva hvl hvc
      subst hva
      subst hvc
      clear hvl hfm
      have y1 := HVR.out.cells_ _ _ (tls_get L k hka).2
      rw [Addr.add_lit, ← Nat.add_assoc] at y1
      have hkt : k < (tns L).length := by unfold tns; rw [List.length_map]; exact hka
      have hst := digM_drop (i := i) hkt
      have hlx : (tns L)[k] = (L[k]).2 := by simp [tns]
      rw [hlx] at hst
      have hbx := HB.out _ (List.getElem_mem hka)
      obtain ⟨⟨s, t⟩, hx⟩ : ∃ x, L[k] = x := ⟨_, rfl⟩
      rw [hx] at y1 hst hbx
      dsimp only at y1 hst hbx
      obtain ⟨q1, q2, q3, q4, q5⟩ := dg_num hbx HJ.out.2
      have hne : ¬ ((t : Int) + 1 = 0) := t1_ne t
      have HQ5 := Lib.hid q5
      have HQD := Lib.hid (show (j : Int).tdiv ((t : Int) + 1) = ((j / (t + 1) : Nat) : Int) ∧ wrap64 ((j : Int).tdiv ((t : Int) + 1)) = ((j / (t + 1) : Nat) : Int) from ⟨q3, q4⟩)
      have z0 := (HB1.out.cell (k * 2)).trans (kcl_at k _)
      have zl := HB1.out.lt
      have zf := HB1.out.frozen
      have HKL := Lib.hid (show k < N from HK.out)
      have hkn : (k : Int) < (N : Int) := lt_z HKL.out
      have HST := Lib.hid hst
      have HTM := Lib.hid q2
      clear hka hkt hlx hx hst hbx q2 q3 q4 q5
      go_upto_region 6 with fail
      go_region_law (fail)
      rw [HTM.out]
      have HBN := Lib.hid (show Blk (wr.setCell ⟨kb, k * 2, none⟩ (iv ((j % (t + 1) : Nat) : Int))).drew kb 75 (kcl (List.replicate k 0 ++ (digM ((tns L).drop k) i).1)).toArray from by
        have h1 := HB1.out.set_ (k * 2) (iv ((j % (t + 1) : Nat) : Int))
        rw [kcl_set] at h1
        rw [HST.out, ← HJ.out.1]
        exact h1)
      have HOW := Lib.hid (show Only [] w (wr.setCell ⟨kb, k * 2, none⟩ (iv ((j % (t + 1) : Nat) : Int))).drew from (HO.out.setCell (.inr (by have := HNB.out; show w.heap.size ≤ kb; omega)) _).drew)
      have HFN := Lib.hid (show Blk (wr.setCell ⟨kb, k * 2, none⟩ (iv ((j % (t + 1) : Nat) : Int))).drew fb 33 #[iv dir, .slice (some ⟨kb, 0, none⟩) N N] from (HB2.out.far (by have := HNB.out; show fb ≠ kb; omega) _).drew)
      have HRN := Lib.hid (show Blk (wr.setCell ⟨kb, k * 2, none⟩ (iv ((j % (t + 1) : Nat) : Int))).drew rb 33 #[iv 0, .slice none 0 0] from (HB3.out.far (by have := HNB.out; show rb ≠ kb; omega) _).drew)
      have HE8 := Lib.hid (sub1 HKL.out HL.out)
      have HJN := Lib.hid (show j / (t + 1) = (digM ((tns L).drop k) i).2 ∧ j / (t + 1) ≤ mostC from ⟨by rw [HST.out, ← HJ.out.1], HQ5.out⟩)
      have HKN := Lib.hid (Nat.le_of_lt HKL.out)
      clear z0 zl zf x0 x1 xl y1 hkn HB1 HB2 HB3
      go_wp2
      go_roundw
      case measure => rw [HE8.out]; exact meas2 k
      case rel => exact ⟨j / (t + 1), k, (k : Int) - 1, by first | rw [HQD.out.2] | rw [HQD.out.1] | (rw [← HQD.out.2]; congr 2), by rw [HE8.out], Lib.hid rfl, HKN, HJN, HBN, HFN, HRN, HOW⟩
end Go.Proofs.Ythekilgolelomaa
