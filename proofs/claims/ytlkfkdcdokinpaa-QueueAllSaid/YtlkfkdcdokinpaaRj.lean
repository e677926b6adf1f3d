/-
  The document's own queue: Leave.
-/
import Derived.Test.YtlkfkdcdokinpaaRg
import Derived.Test.YtlkfkdcdokinpaaTc
namespace Go.Proofs.Ytlkfkdcdokinpaa
open Go.RowKit Go.Fl

def RLeaveD (w : World) (r : Nat) (S : List Nat) (cap bytes : Int) (m : (List Int × Int) × List Item × List Item) (e : Ending) (w' : World) : Prop :=
  ∃ v, e = .returned (.tuple #[v, .int .i64 m.1.2]) ∧ FreshI w w' v m.1.1 ∧ RStep w w' r S cap bytes m.2.1 m.2.2

theorem r_leave {w w4 w9 : World} {r : Nat} {cap bytes : Int} {held line2 : List Item} {iv lv v3 u : Value} (hR4 : RStep w w4 r (rblocks r iv lv) cap bytes held line2) (hR3 : ROk w4 r cap bytes held line2 iv v3) (hv : ∀ g, v3.ownBlock = some g → lv.ownBlock = some g ∨ w.heap.size ≤ g)
    (hF : FreshI w4 w9 u (come cap bytes held line2).1) (hQ : RStep w4 w9 r (rblocks r iv v3) cap bytes (come cap bytes held line2).2.1 (come cap bytes held line2).2.2) :
    FreshI w w9 u (come cap bytes held line2).1 ∧ RStep w w9 r (rblocks r iv lv) cap bytes (come cap bytes held line2).2.1 (come cap bytes held line2).2.2 := by
  obtain ⟨S, h1, h2, h3⟩ := hR4
  refine ⟨⟨hF.1, fun g hg => Nat.le_trans h2.size (hF.2 g hg)⟩, .trans h2 (fun g hg => ?_) hQ⟩
  rw [mem_r'] at hg ⊢
  rcases hg with hg | hg | hg
  · exact .inl (.inl hg)
  · exact .inl (.inr (.inl hg))
  · exact (hv g hg).imp (fun h => .inr (.inr h)) (fun x => x)

set_option maxRecDepth 100000 in
set_option maxHeartbeats 1600000 in
theorem rleave_go {r : Nat} {cap bytes : Int} {held line : List Item} {iv lv : Value} (id : Int) (w : World) (h : ROk w r cap bytes held line iv lv) :
    Calls Try.prog 18 #[.pointer (some ⟨r, 0, none⟩), .int .i64 id] w (RLeaveD w r (rblocks r iv lv) cap bytes (leaveM cap bytes held line id)) := by
  obtain ⟨j0, hi, hz0, hz1, hz2⟩ := info_parts info38
  obtain ⟨a, c, hlv, hnc, _⟩ := h.L.shape
  obtain ⟨hcell, hfz, hlt⟩ := h.B.facts
  have hll := h.lenl
  have H := Lib.hid h
  clear h
  subst hlv
  go_enter Try.func18, Try.ntmps18
  go_wp2
  go_loopw [6] (fun i wr => ∃ k : Nat, k ≤ line.length ∧ i = .int .i64 k ∧ Hid (wr = w) ∧ Hid (∀ j (h : j < line.length), j < k → line[j].1 ≠ id)) (fun i _ => line.length - (intOf i).toNat)
  case atStart => exact ⟨0, Nat.zero_le _, rfl, Lib.hid rfl, Lib.hid (fun j _ h => by omega)⟩
  case round =>
    obtain ⟨k, hk, rfl, HW, HN⟩ := hrel
    obtain rfl := HW.out
    by_cases hkl : k < line.length
    · obtain ⟨g, o, c', hv, hg, _, hcm, hcc, _⟩ := H.out.L.form (by omega)
      injection hv with hva hvl hvc
      subst hva
      subst hvc
      clear hvl
      have hx : line[k]? = some line[k] := List.getElem?_eq_getElem hkl
      have e1 := (hcc (k * 2) (by omega)).trans (cells_at line k _ hx).1
      clear hcc hx
      by_cases hid : line[k].1 = id
      · have hm : leaveM cap bytes held line id = (((come cap bytes held (line.eraseIdx k)).1, 0), (come cap bytes held (line.eraseIdx k)).2) := by unfold leaveM; rw [findId_some hkl hid HN.out]
        rw [hm]
        have HF := Lib.hid (H.out.L.front (k := k) (cap2 := k) (by omega) (Nat.le_refl _) (by omega))
        have HT := Lib.hid (H.out.L.cut (k := k + 1) (by omega))
        clear hm HN HW
        by_cases hc1 : c = k + 1
        all_goals
          have h5 := HT.out
          simp only [hc1, Addr.add, if_true, if_false, Option.map_some, Nat.add_sub_cancel, Nat.sub_self] at h5
          have HC5 := Lib.hid h5
          clear h5
          go_wp2
          refine Lex.wp_region_text (by kernel_rfl) (by kernel_rfl) ?_
          go_wp2_with (at_builtin; refine wpList_append_sls (m := line.length - (k + 1)) (news := (cells line).drop ((k + 1) * 2)) rfl (.tmp 33) (.tmp 40) 31 rfl 38 j0 _ 2 16 Try.underlying31 hi hz0 hz1 hz2 rfl (by decide) rfl HF.out.drew rfl HC5.out.drew (fun u hu => cells_one line u (List.mem_of_mem_drop hu)) (by unfold maxLen; omega) (by omega) ?_)
          intro v3 w3 hS3 hg3 hat3
          have hS3' : Sl w3 38 2 v3 (line.eraseIdx k).length (cells (line.eraseIdx k)) := by
            rw [cells_erase, List.length_eraseIdx, if_pos hkl, show line.length - 1 = k + (line.length - (k + 1)) by omega]; exact hS3
          have o3 : Only (some g : Option Nat).toList wr w3 := ((Only.refl _ _).drew).grown hg3 (fun j hj => .inl (by simpa [Value.ownBlock, eq_comm] using hj))
          have hat3' : v3.ownBlock = some g ∨ ∀ j, v3.ownBlock = some j → wr.heap.size ≤ j := hat3.imp (fun x => x) (fun h j hj => by rw [h] at hj; injection hj with hj; subst hj; simp)
          have hB3 := H.out.B.only o3 (not_own H.out.rl)
          have hR3 := r_line (line' := line.eraseIdx k) H.out (fun y hy => H.out.okl y (List.mem_of_mem_eraseIdx hy)) (by rw [List.length_eraseIdx, if_pos hkl]; omega) hS3' o3 hat3'
          have hR4 := r_step (ov := .slice (some ⟨g, o, none⟩) line.length c) H.out hR3 o3 (.inr rfl) (fun j hj => .inl hj) (fun j hj => hat3'.imp (fun h => h.symm.trans hj) (fun h => h j hj))
          obtain ⟨a3, c3, hv3, _, _⟩ := hS3'.shape
          clear hcell hfz hlt
          obtain ⟨hcell, hfz, hlt⟩ := hB3.facts
          have HR3 := Lib.hid hR3
          have HR4 := Lib.hid hR4
          have HV3 : Hid (∀ j, v3.ownBlock = some j → (Value.slice (some ⟨g, o, none⟩) line.length c).ownBlock = some j ∨ wr.heap.size ≤ j) := Lib.hid (fun j hj => hat3'.imp (fun h => h.symm.trans hj) (fun h => h j hj))
          clear hS3 hS3' hg3 hat3 hat3' o3 hB3 hR3 hR4 HC5 HT HF
          subst hv3
          go_wp2
          refine Lex.sq_done (by rfl) ?_
          have HE := Lib.hid (rcome_ok _ HR3.out)
          go_wp2_with fail
          refine HE.out.mono ?_
          clear HE
          rintro e w9 ⟨u9, rfl, hF9, hQ9⟩
          have HT := Lib.hid (r_leave HR4.out HR3.out HV3.out hF9 hQ9)
          clear hF9 hQ9
          go_wp2
          go_ret2
          exact ⟨_, rfl, HT.out⟩
      · have HD := Lib.hid hid
        go_wp2
        go_roundw
        case measure => simp [intOf]; omega
        case rel => exact ⟨k + 1, by omega, by congr 1, (by first | exact Lib.hid rfl | exact Lib.hid trivial), Lib.hid (fun j h hj => by
          rcases Nat.lt_succ_iff_lt_or_eq.1 hj with hj | hj
          · exact HN.out j h hj
          · subst hj; exact HD.out)⟩
    · have hm : leaveM cap bytes held line id = (([], 6), held, line) := by unfold leaveM; rw [findId_none (fun j hj => HN.out j hj (by omega))]
      rw [hm]
      go_wp2
      go_ret2
      exact ⟨_, rfl, ⟨Sl.nil _ _ _, fun g hg => by simp [Value.ownBlock] at hg⟩, H.out.is.same (Only.refl _ _)⟩
theorem rleave_ok {r : Nat} {cap bytes : Int} {held line : List Item} {S : List Nat} (id : Int) (w : World) (h : RIs w r S cap bytes held line) :
    Calls Try.prog 18 #[.pointer (some ⟨r, 0, none⟩), .int .i64 id] w (RLeaveD w r S cap bytes (leaveM cap bytes held line id)) := by
  obtain ⟨iv, lv, h, hS⟩ := h
  refine (rleave_go id w h).mono ?_
  rintro e w' ⟨v, h1, h2, h3⟩
  exact ⟨v, h1, h2, h3.mono hS⟩
end Go.Proofs.Ytlkfkdcdokinpaa
