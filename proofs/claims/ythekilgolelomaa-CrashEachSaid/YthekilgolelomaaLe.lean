/-
  Package crash on a disk without faults; the law's begun.
-/
import Derived.Test.YthekilgolelomaaLd
import Derived.Test.YthekilgolelomaaEa
import Derived.Laws.IdiomStrings
import Derived.Lib.BufferRead
set_option linter.unusedSimpArgs false
set_option linter.unusedVariables false
namespace Go.Proofs.Ythekilgolelomaa
open Go.RowKit Go.Fl

/-- How long the tails are behind n changes of a disk without faults. -/
def TM (last : Dir) (pend : List Chg) (fs : Nat → FD) (n : Nat) : List Nat := (doAll last (pend.take n)).map fun x => (fs x.2).tail.length
section
variable {w wr w' : World} {d : Nat} {m : Int} {now last : Dir} {pend : List Chg} {fs : Nat → FD} {s : Nm} {f : Nat}
theorem CS.tails {p : PD} (h : CS p m now last pend) : tailsM p fs = TM last pend fs := by
  funext n
  unfold tailsM TM
  rw [h.after, Int.toNat_natCast]
theorem CS.ways {p : PD} (h : CS p m now last pend) : waysM p fs = upM (TM last pend fs) (pend.length + 1) := by
  unfold waysM
  rw [h.tails, h.pend]
theorem oc_ways (h : OC w wr d m now last pend fs) (hp : pend.length ≤ 1048576) {n : Nat} (hw : upM (TM last pend fs) (pend.length + 1) = some n) : Calls Try.prog 17 #[cp d] wr fun e w' => e = .returned (.tuple #[iv n, iv 0]) ∧ Only [] wr w' := by
  obtain ⟨F, p, ids, h1, h2⟩ := h
  have := ways_ok h1.dk (by rw [h2.pend]; exact hp)
  rw [h2.ways, hw] at this
  exact this
theorem oc_at (h : OC w wr d m now last pend fs) (hp : pend.length ≤ 1048576) {n : Nat} (hw : upM (TM last pend fs) (pend.length + 1) = some n) (i : Nat) (hi : i < n) {dir j : Nat} (ha : atM (TM last pend fs) (pend.length + 1) 0 i = (dir, j)) {ds : List Nat} (hd : (digM (TM last pend fs dir) j).1 = ds) : Calls Try.prog 39 #[cp d, iv i] wr fun e w' =>
    ∃ kv, e = .returned (.tuple #[.agg #[iv dir, kv], iv 0]) ∧ KS w' kv (kjs ds) ∧ Only [] wr w' ∧ ∀ g, kv.ownBlock = some g → wr.heap.size ≤ g := by
  obtain ⟨F, p, ids, h1, h2⟩ := h
  have := at_in h1.dk (by rw [h2.pend]; exact hp) (by rw [h2.ways, hw]) i hi
  rw [h2.tails, h2.pend, ha] at this
  dsimp only at this
  rw [hd] at this
  exact this
theorem oc_number (h : OC w wr d m now last pend fs) (hp : pend.length ≤ 1048576) {n : Nat} (hw : upM (TM last pend fs) (pend.length + 1) = some n) (fd : Int) {kv : Value} {kj : List Kp} (hk : KS wr kv kj) : Calls Try.prog 40 #[cp d, .agg #[iv fd, kv]] wr fun e w' =>
    e = .returned (.tuple #[iv ((upM (TM last pend fs) (min fd.toNat pend.length)).getD 0 + numK (TM last pend fs (min fd.toNat pend.length)) (fun k => (kpat kj k).1) (TM last pend fs (min fd.toNat pend.length)).length : Nat), iv 0]) ∧ Only [] wr w' := by
  obtain ⟨F, p, ids, h1, h2⟩ := h
  have := number_ok h1.dk (by rw [h2.pend]; exact hp) (by rw [h2.ways, hw]) fd hk
  unfold numM dirM at this
  rw [h2.tails, h2.pend] at this
  exact this
theorem oc_after (h : OC w wr d m now last pend fs) (hp : pend.length ≤ 1048576) {n : Nat} (hw : upM (TM last pend fs) (pend.length + 1) = some n) (i : Nat) (hi : i < n) {dir j : Nat} (ha : atM (TM last pend fs) (pend.length + 1) 0 i = (dir, j)) {ds : List Nat} (hd : (digM (TM last pend fs dir) j).1 = ds) : Calls Try.prog 18 #[cp d, iv i] wr fun e w' =>
    ∃ d', e = .returned (.tuple #[cp d', iv 0]) ∧ Only [] wr w' ∧ ∃ D fs2, OC wr w' d' m D D [] fs2 ∧ view fs2 D = crashV fs (kpat (kjs ds)) (doAll last (pend.take dir)) := by
  obtain ⟨F, p, ids, h1, h2⟩ := h
  refine (after_in h1.dk (by rw [h2.pend]; exact hp) (by rw [h2.ways, hw]) i hi).mono ?_
  rintro e w' ⟨d', rfl, F2, p2, fs2, ids2, D, ho, ⟨σ, rfl⟩, hv⟩
  rw [h2.tails, h2.pend, ha] at hv
  dsimp only at hv
  rw [hd, h2.after, Int.toNat_natCast] at hv
  exact ⟨d', rfl, ho.only, D, fs2, ⟨F2, _, ids2, ho, ⟨rfl, h2.most, rfl, rfl, rfl, rfl⟩⟩, hv⟩
end
set_option maxRecDepth 100000 in
theorem ways_nil (w : World) : Calls Try.prog 17 #[.pointer none] w fun e w' => e = .returned (.tuple #[iv 0, iv 1]) ∧ w' = w := by
  go_enter Try.func17, Try.ntmps17
  go_wp2
  exact bodyPost_ret (results2 rfl (res_tmp rfl) (res_tmp rfl)) rfl ⟨rfl, rfl⟩
/-! ### The law's begun -/
def b12f (fa fb : Nat) : Nat → FD := upd (upd (upd (upd (fun _ => ⟨[], [], 0⟩) fa ⟨[], [], 0⟩) fa ⟨[97, 98, 99], [], 0⟩) fb ⟨[], [], 0⟩) fb ⟨[120], [], 0⟩
theorem b12_tm {fs : Nat → FD} {fa fb : Nat} (ha : (fs fa).tail.length = 3) (hb : (fs fb).tail.length = 1) : TM [([97], fa)] [.cr [98] fb] fs 0 = [3] ∧ TM [([97], fa)] [.cr [98] fb] fs 1 = [3, 1] := by
  refine ⟨?_, ?_⟩
  · show [(fs fa).tail.length] = [3]
    rw [ha]
  · show [(fs fa).tail.length, (fs fb).tail.length] = [3, 1]
    rw [ha, hb]
theorem b12_up {T : Nat → List Nat} (h0 : T 0 = [3]) (h1 : T 1 = [3, 1]) : upM T 1 = some 4 ∧ upM T 2 = some 12 ∧ atM T 2 0 5 = (1, 1) := by
  have c0 : chM (T 0) 1 = some 4 := by rw [h0]; decide
  have c1 : chM (T 1) 1 = some 8 := by rw [h1]; decide
  have u1 : upM T 1 = some 4 := by
    unfold upM upM
    dsimp only
    rw [c0]
    rfl
  have u2 : upM T 2 = some 12 := by
    show (match upM T 1 with | none => none | some a => match chM (T 1) 1 with | none => none | some m => if mostC - m < a then none else some (a + m)) = some 12
    rw [u1, c1]
    rfl
  refine ⟨u1, u2, ?_⟩
  have d0 : chD T 0 = 4 := by unfold chD; rw [c0]; rfl
  have d1 : chD T 1 = 8 := by unfold chD; rw [c1]; rfl
  unfold atM
  rw [d0, if_neg (by decide)]
  unfold atM
  rw [d1, if_pos (by decide)]
section
variable {w wr w' wr2 : World} {d : Nat} {m : Int} {now last : Dir} {pend : List Chg} {fs : Nat → FD} {s : Nm} {f : Nat}
/-- Append of bytes that have just been laid. -/
theorem oc_append_new (h : OC w wr d m now last pend fs) (ho : Only [] wr wr2) (hs : mayB s = true) (hf : now.get s = some f) {data : List UInt8} {v : Value} (hv : Sr wr2 1 v data.length (byV data)) (hn : ∀ g, v.ownBlock = some g → wr.heap.size ≤ g) (hl : data.length ≤ 1048576) (hr : (data.length : Int) ≤ m - lens fs now) :
    Calls Try.prog 10 #[cp d, sk s, v] wr2 fun e w' => e = .returned (.tuple #[iv data.length, iv 0]) ∧ OC w w' d m now last pend (upd fs f { fs f with b := (fs f).b ++ data }) := by
  obtain ⟨F, p, ids, h1, h2⟩ := h
  obtain ⟨p', e0, hc⟩ := h2.append (fs := fs) hs hf hr
  refine (append_ok (h1.quiet ho).dk h2.calm s hv (Off.fresh (n := data.length) h1.dk hn) hl).mono ?_
  rintro e w' ⟨rfl, ha⟩
  rw [e0] at ha ⊢
  exact ⟨rfl, _, p', _, (h1.quiet ho).step ha, hc⟩
end
theorem b12_get (fa fb : Nat) : Dir.put [([97], fa)] [98] fb = [([97], fa), ([98], fb)] := rfl
set_option maxRecDepth 100000 in
set_option maxHeartbeats 6400000 in
theorem begun12_ok (w : World) : Calls Try.prog 16 #[] w fun e w' => e = .returned (.bool true) ∧ Only [] w w' := by
  have kc := fun (w : World) (C : Array Value) (n c : Nat) => Lib.run_convert_bytes_const (P := Try.prog) w 29 5 C n c Try.underlying29 Try.underlying5
  go_enter Try.func16, Try.ntmps16
  go_wp2_with fail
  refine (oc_new w w (Only.refl _ _) 100 (by decide) (by decide)).mono ?_
  rintro e w1 ⟨d, rfl, h⟩
  have H1 := Lib.hid h
  clear h
  go_wp2_with fail
  refine (oc_create H1.out (by decide) (s := [97]) rfl rfl (by decide)).mono ?_
  rintro e w2 ⟨rfl, fa, h, _, _⟩
  have H2 := Lib.hid h
  clear h H1
  go_wp2_with fail
  refine (oc_sdir H2.out (by simp)).mono ?_
  rintro e w3 ⟨rfl, h⟩
  have H3 := Lib.hid (show OC w w3 d 100 [([97], fa)] [([97], fa)] [] (upd (fun _ => ⟨[], [], 0⟩) fa ⟨[], [], 0⟩) from h)
  clear h H2
  have HS3 := Lib.hid (sr_by (w := w3) (mk := (3, 4)) (l := abc) (cs := #[.int .u8 97, .int .u8 98, .int .u8 99]) rfl (by decide))
  go_wp2_with fail
  refine (oc_append_new H3.out ((Only.refl [] w3).alloc _) (s := [97]) (f := fa) rfl rfl (data := abc) HS3.out (fun g hg => by injection hg with hg; exact Nat.le_of_eq hg) (by decide) (by unfold lens; simp [upd_at, abc])).mono ?_
  rintro e w4 ⟨rfl, h⟩
  rw [upd_at] at h
  have H4 := Lib.hid h
  clear h H3 HS3
  go_wp2_with fail
  refine (oc_create H4.out (by simp) (s := [98]) rfl rfl (by simp)).mono ?_
  rintro e w5 ⟨rfl, fb, h, hab, _⟩
  have HAB := Lib.hid (show fa ≠ fb from hab ([97], fa) (by simp))
  rw [b12_get] at h
  have H5 := Lib.hid h
  clear h H4 hab
  have HS5 := Lib.hid (sr_by (w := w5) (mk := (1, 2)) (l := [120]) (cs := #[.int .u8 120]) rfl (by decide))
  go_wp2_with fail
  refine (oc_append_new H5.out ((Only.refl [] w5).alloc _) (s := [98]) (f := fb) rfl rfl (data := [120]) HS5.out (fun g hg => by injection hg with hg; exact Nat.le_of_eq hg) (by decide) (by unfold lens; simp [upd_at, upd_ne _ _ HAB.out, abc])).mono ?_
  rintro e w6 ⟨rfl, h⟩
  rw [upd_at] at h
  obtain ⟨fs, hfs⟩ : ∃ fs, upd (upd (upd (upd (fun _ => (⟨[], [], 0⟩ : FD)) fa ⟨[], [], 0⟩) fa ⟨[] ++ abc, [], 0⟩) fb ⟨[], [], 0⟩) fb ⟨[] ++ [120], [], 0⟩ = fs := ⟨_, rfl⟩
  have HFA := Lib.hid (show (fs fa).tail.length = 3 from by rw [← hfs, upd_ne _ _ HAB.out, upd_ne _ _ HAB.out, upd_at]; rfl)
  have HFB := Lib.hid (show (fs fb).tail.length = 1 from by rw [← hfs, upd_at]; rfl)
  rw [hfs] at h
  have H6 := Lib.hid (show OC w w6 d 100 [([97], fa), ([98], fb)] [([97], fa)] [.cr [98] fb] fs from h)
  clear h hfs H5 HS5
  have HT := Lib.hid (b12_tm HFA.out HFB.out)
  obtain ⟨u1, u2, hat⟩ := b12_up (T := TM [([97], fa)] [.cr [98] fb] fs) HT.out.1 HT.out.2
  have HU := Lib.hid (show upM (TM [([97], fa)] [.cr [98] fb] fs) 1 = some 4 ∧ upM (TM [([97], fa)] [.cr [98] fb] fs) ([Chg.cr [98] fb].length + 1) = some 12 ∧ atM (TM [([97], fa)] [.cr [98] fb] fs) ([Chg.cr [98] fb].length + 1) 0 5 = (1, 1) from ⟨u1, u2, hat⟩)
  have HDG := Lib.hid (show (digM (TM [([97], fa)] [.cr [98] fb] fs 1) 1).1 = [0, 1] from by rw [HT.out.2]; rfl)
  clear u1 u2 hat
  go_wp2_with fail
  refine (oc_ways H6.out (by simp) HU.out.2.1).mono ?_
  rintro e w7 ⟨rfl, ho⟩
  have H7 := Lib.hid (H6.out.quiet ho)
  clear ho H6
  go_wp2_with fail
  refine (oc_at H7.out (by simp) HU.out.2.1 5 (by decide) HU.out.2.2 HDG.out).mono ?_
  rintro e w8 ⟨kv, rfl, hks, ho, hkw⟩
  obtain ⟨ka, kc2, hkv, _, _⟩ := hks.1.shape
  subst hkv
  have H8 := Lib.hid (H7.out.quiet ho)
  have HKS := Lib.hid hks
  clear hks ho hkw H7
  rw [show (kjs [0, 1]).length = 2 from rfl] at HKS ⊢
  go_upto_region 9 with fail
  have HF9 := Lib.hid (Blk.new w8 33 #[iv 1, .slice ka 2 kc2])
  obtain ⟨w9, hw9⟩ : ∃ w9, w8.alloc (.cells #[iv 1, .slice ka 2 kc2] 33) = w9 := ⟨_, rfl⟩
  obtain ⟨fb9, hfb9⟩ : ∃ b, w8.heap.size = b := ⟨_, rfl⟩
  have HO9 := Lib.hid (show Only [] w8 w9 from hw9 ▸ (Only.refl [] w8).alloc _)
  rw [hw9, hfb9] at HF9
  rw [hw9, hfb9]
  have H9 := Lib.hid (H8.out.quiet HO9.out)
  have HKS9 := Lib.hid (HKS.out.only0 HO9.out)
  have x0 := HF9.out.cell 0
  have x1 := HF9.out.cell 1
  have xl := HF9.out.lt
  simp at x0 x1
  have HNB := Lib.hid (oc_number H9.out (by simp) HU.out.2.1 1 HKS9.out)
  rw [show min (1 : Int).toNat [Chg.cr [98] fb].length = 1 from rfl, HU.out.1, HT.out.2, show ((some 4 : Option Nat).getD 0 + numK [3, 1] (fun k => (kpat (kjs [0, 1]) k).1) [3, 1].length) = 5 from rfl] at HNB
  clear hw9 hfb9 HKS HO9 H8
  go_wp2_with fail
  refine HNB.out.mono ?_
  rintro e w10 ⟨rfl, ho⟩
  have H10 := Lib.hid (H9.out.quiet ho)
  have HF10 := Lib.hid (HF9.out.only ho (by simp))
  clear ho HNB x0 x1 xl H9 HF9 HKS9
  go_wp2_with fail
  refine (oc_after H10.out (by simp) HU.out.2.1 5 (by decide) HU.out.2.2 HDG.out).mono ?_
  rintro e w11 ⟨d', rfl, ho, _⟩
  have HF11 := Lib.hid (HF10.out.only ho (by simp))
  have HO11 := Lib.hid ((H10.out.quiet ho).only)
  clear ho H10 HF10
  go_wp2_with fail
  refine (ways_nil w11).mono ?_
  rintro e w12 ⟨rfl, rfl⟩
  have x0 := HF11.out.cell 0
  have x1 := HF11.out.cell 1
  have xl := HF11.out.lt
  simp at x0 x1
  go_wp2
  exact bodyPost_ret (results_tmp rfl _ _ _) rfl ⟨rfl, HO11.out⟩
end Go.Proofs.Ythekilgolelomaa
