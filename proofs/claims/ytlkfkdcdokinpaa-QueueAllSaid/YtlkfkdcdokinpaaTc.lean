/-
  The queue's Leave.
-/
import Derived.Test.YtlkfkdcdokinpaaTb
namespace Go.Proofs.Ytlkfkdcdokinpaa
open Go.RowKit Go.Fl

/-- What Leave does. -/
def leaveM (cap bytes : Int) (held line : List Item) (id : Int) : (List Int × Int) × List Item × List Item :=
  match findId id line with
  | none => (([], 6), held, line)
  | some i => (((come cap bytes held (line.eraseIdx i)).1, 0), (come cap bytes held (line.eraseIdx i)).2)
def LeaveD (w : World) (q : Nat) (S : List Nat) (cap bytes : Int) (r : (List Int × Int) × List Item × List Item) (e : Ending) (w' : World) : Prop :=
  ∃ v, e = .returned (.tuple #[v, .int .i64 r.1.2]) ∧ FreshI w w' v r.1.1 ∧ QStep w w' q S cap bytes r.2.1 r.2.2

theorem erase_perm {ks : List Int} {held line : List Item} {k : Nat} {id : Int} (hk : k < line.length) (hid : line[k].1 = id) (h : ks.Perm (idsOf (held ++ line))) : (ks.erase id).Perm (idsOf (held ++ line.eraseIdx k)) := by
  have h1 : (idsOf (held ++ line)).Perm (id :: idsOf (held ++ line.eraseIdx k)) := by
    have h2 : line.Perm (line[k] :: line.eraseIdx k) := by
      rw [List.eraseIdx_eq_take_drop_succ]
      have e : line = line.take k ++ line[k] :: line.drop (k + 1) := by rw [← List.drop_eq_getElem_cons hk, List.take_append_drop]
      conv => lhs; rw [e]
      exact List.perm_middle
    have h3 := (h2.append_left held).trans List.perm_middle
    have h4 := h3.map (·.1)
    rw [List.map_cons, hid] at h4
    exact h4
  have h5 := (h.trans h1).erase id
  rwa [List.erase_cons_head] at h5
theorem leave_set {w3 w4 w5 : World} {q : Nat} {cap bytes : Int} {held line line' : List Item} {l lv v3 : Value} {f mb : Nat} {ks ks' : List Int} (h : QOk w3 q cap bytes held line l lv f mb ks) (hx : Sized line') (hll : line'.length ≤ 1024)
    (hS : Sl w3 38 2 v3 line'.length (cells line')) (hN : ∀ g, v3.ownBlock = some g → g ∉ qblocks q mb l lv) (ho4 : Only [] (w3.setCell ⟨q, 6, none⟩ v3) w4) (hM : IMap w5 mb .i64 (setM ks')) (ho5 : Only [mb] w4 w5) (hp : ks'.Perm (idsOf (held ++ line'))) :
    QOk w5 q cap bytes held line' l v3 f mb ks' := by
  have hmq : mb ≠ q := h.M.not_cells h.B
  have hml := imap_ring h.M h.R
  have hql := ring_ne h.B h.R
  have hB4 : QB (w3.setCell ⟨q, 6, none⟩ v3) q cap bytes (sum held) l f held.length v3 (.map (some mb)) := by simpa [QB] using h.B.set_ 6 v3
  have hR4 : RingIs (w3.setCell ⟨q, 6, none⟩ v3) l f held.length held := h.R.keep fun g hg => Below.heap_setCell w3 ⟨q, 6, none⟩ _ g (fun hh => hql (hg.trans (congrArg some hh)))
  have hS4 := hS.far (p := ⟨q, 6, none⟩) (fun hh => hN q hh mem_q) v3
  refine ⟨h.okh, hx, h.cap0, h.byt0, hll, (hB4.only ho4 (by simp)).only ho5 (by simp [Ne.symm hmq]), (hR4.only ho4 (by simp)).only ho5 (fun g hg hh => hml (by simp at hh; rw [hg, hh])), (hS4.only ho4 (by simp)).only ho5 (fun g hg hh => hN g hg (by simp at hh; rw [hh]; exact mem_m)), fun g hg hg' => hN g hg' (mem_l hg), hM, hp⟩

set_option maxRecDepth 100000 in
set_option maxHeartbeats 1600000 in
theorem leave_go {q : Nat} {cap bytes : Int} {held line : List Item} {l lv : Value} {f mb : Nat} {ks : List Int} (id : Int) (w : World) (h : QOk w q cap bytes held line l lv f mb ks) :
    Calls Try.prog 17 #[.pointer (some ⟨q, 0, none⟩), .int .i64 id] w (LeaveD w q (qblocks q mb l lv) cap bytes (leaveM cap bytes held line id)) := by
  have HC := Lib.hid (there_ok (w.alloc (.cells #[.int .i64 id] 2)) (h.B.alloc _) h.cap0)
  have HI := Lib.hid (index_ok id w.heap.size (w.alloc (.cells #[.int .i64 id] 2)) (h.S.alloc _) (Blk.new _ _ _) (by have := h.lenl; omega))
  obtain ⟨a, c, hlv, _, _⟩ := h.S.shape
  obtain ⟨hcell, hfz, hlt⟩ := h.B.facts
  have H := Lib.hid h
  clear h
  subst hlv
  cases hf : findId id line with
  | none =>
    have hm : leaveM cap bytes held line id = (([], 6), held, line) := by unfold leaveM; rw [hf]
    rw [hf] at HI
    rw [hm]
    clear hm hf
    go_enter Try.func17, Try.ntmps17
    go_wp2_with fail
    refine HC.out.mono ?_
    clear HC
    rintro e w1 ⟨rfl, rfl⟩
    go_wp2_with fail
    refine HI.out.mono ?_
    clear HI
    rintro e w1 ⟨rfl, ho1⟩
    have HO := Lib.hid (((Only.refl [] w).alloc (.cells #[.int .i64 id] 2)).trans ho1)
    clear ho1
    show _
    simp only [idxV]
    go_wp2
    go_ret2
    exact ⟨_, rfl, ⟨Sl.nil _ _ _, fun g hg => by simp [Value.ownBlock] at hg⟩, H.out.is.same HO.out⟩
  | some i =>
    have hm : leaveM cap bytes held line id = (((come cap bytes held (line.eraseIdx i)).1, 0), (come cap bytes held (line.eraseIdx i)).2) := by unfold leaveM; rw [hf]
    obtain ⟨hi, hid⟩ := findId_lt hf
    rw [hf] at HI
    rw [hm]
    have HID := Lib.hid hid
    clear hm hf hid
    go_enter Try.func17, Try.ntmps17
    go_wp2_with fail
    refine HC.out.mono ?_
    clear HC
    rintro e w1 ⟨rfl, rfl⟩
    go_wp2_with fail
    refine HI.out.mono ?_
    clear HI
    rintro e w1 ⟨rfl, ho1⟩
    have hX1 := (Blk.new w 2 #[.int .i64 id]).only ho1 (by simp)
    have HO := Lib.hid (((Only.refl [] w).alloc (.cells #[.int .i64 id] 2)).trans ho1)
    have H1 := Lib.hid (H.out.only HO.out (by simp))
    obtain ⟨hcell, hfz, hlt⟩ := H1.out.B.facts
    obtain ⟨xc, xf, xlt⟩ := hX1.facts
    have HX1 := Lib.hid hX1
    clear ho1 hX1
    simp only [idxV]
    have HCl := Lib.hid (clone_ok w1 H1.out.S (by omega) (by have := H1.out.lenl; omega))
    go_wp2_with fail
    refine HCl.out.mono ?_
    clear HCl
    rintro e w2 ⟨v2, rfl, hF2, hO2⟩
    have ho12 := HO.out.trans hO2
    have H2 := Lib.hid (H1.out.only hO2 (by simp))
    have hF2' : ∀ g, v2.ownBlock = some g → w.heap.size ≤ g := fun g hg => Nat.le_trans HO.out.size (hF2.2 g hg)
    have hX2 := HX1.out.only hO2 (by simp)
    have hXv : v2.ownBlock ≠ some w.heap.size := fun hh => by have := hF2.2 _ hh; have := HX1.out.lt; omega
    have HD := Lib.hid (delete_ok i w2 hF2.1 hi (by have := H1.out.lenl; omega))
    have HX2 := Lib.hid hX2
    have HXV := Lib.hid hXv
    have hll := H1.out.lenl
    have HF2 := Lib.hid hF2'
    have HO12 := Lib.hid ho12
    clear hF2 hF2' hX2 hXv ho12 hO2
    go_wp2_with fail
    refine HD.out.mono ?_
    clear HD
    rintro e w3 ⟨v3, rfl, hS3, hv3, hO3⟩
    have HO3 := Lib.hid (HO12.out.trans' hO3 (fun g hg => .inr (HF2.out g (by simpa using hg))))
    have H3 := Lib.hid (H.out.only HO3.out (by simp))
    have hX3 := HX2.out.only hO3 (not_own HXV.out)
    obtain ⟨hcell, hfz, hlt⟩ := H3.out.B.facts
    obtain ⟨xc, xf, xlt⟩ := hX3.facts
    obtain ⟨a3, c3, hs3, _, _⟩ := hS3.shape
    have HN3 : Hid (∀ g, v3.ownBlock = some g → g ∉ qblocks q mb l (.slice a line.length c)) := Lib.hid (fun g hg hh => by
      have h1 := HF2.out g (hv3 ▸ hg)
      rw [mem_q'] at hh
      rcases hh with rfl | rfl | hh | hh
      · have := H.out.B.lt; omega
      · have := H.out.M.lt; omega
      · have := H.out.R.lt g hh; omega
      · have := H.out.S.lt g hh; omega)
    have HFr3 : Hid (∀ g, v3.ownBlock = some g → w.heap.size ≤ g) := Lib.hid (fun g hg => HF2.out g (hv3 ▸ hg))
    have HX3 := Lib.hid hX3
    have HS3 := Lib.hid hS3
    clear hS3 hv3 hO3 hX3
    subst hs3
    go_wp2
    refine Lex.wp_region_text (by kernel_rfl) (by kernel_rfl) ?_
    go_wp2_with (refine wpList_delete (b := mb) (m := setM ks) (y := id) rfl (.tmp 33) (.tmp 34) 55 2 rfl 60 Try.underlying55 Try.underlying2 rfl ((H3.out.M.setCell _ _).drew) rfl ?_)
    intro w5 hM5 ho5
    rw [setM_del] at hM5
    have hH5 := leave_set H3.out (fun y hy => H.out.okl y (List.mem_of_mem_eraseIdx hy)) (by have := H.out.lenl; rw [List.length_eraseIdx]; split <;> omega) HS3.out HN3.out ((Only.refl [] _).drew) hM5 ho5 (erase_perm hi HID.out H.out.ids)
    have HW5 : Hid (Only (qblocks q mb l (.slice a line.length c)) w w5) := Lib.hid ((((HO3.out.mono (by simp)).setCell (p := ⟨q, 6, none⟩) (.inl mem_q) _).drew).trans' ho5 (fun g hg => .inl (by simp at hg; rw [hg]; exact mem_m)))
    have HH5 := Lib.hid hH5
    clear hM5 ho5 hH5
    go_wp2
    refine Lex.sq_done (by rfl) ?_
    have HE := Lib.hid (enter_q w5 HH5.out)
    go_wp2_with fail
    refine HE.out.mono ?_
    clear HE
    rintro e w9 ⟨u9, rfl, hF9, hQ9, hO9⟩
    have HF9 := Lib.hid hF9
    have HQ9 := Lib.hid hQ9
    clear hF9 hQ9 hO9
    go_wp2
    go_ret2
    refine ⟨_, rfl, ⟨HF9.out.1, fun g hg => Nat.le_trans HW5.out.size (HF9.out.2 g hg)⟩, .trans HW5.out (fun g hg => ?_) HQ9.out⟩
    rw [mem_q'] at hg ⊢
    rcases hg with hg | hg | hg | hg
    · exact .inl (.inl hg)
    · exact .inl (.inr (.inl hg))
    · exact .inl (.inr (.inr (.inl hg)))
    · exact .inr (HFr3.out g hg)
theorem leave_ok {q : Nat} {cap bytes : Int} {held line : List Item} {S : List Nat} (id : Int) (w : World) (h : QIs w q S cap bytes held line) :
    Calls Try.prog 17 #[.pointer (some ⟨q, 0, none⟩), .int .i64 id] w (LeaveD w q S cap bytes (leaveM cap bytes held line id)) := by
  obtain ⟨l, lv, f, mb, ks, h, hS⟩ := h
  refine (leave_go id w h).mono ?_
  rintro e w' ⟨v, h1, h2, h3⟩
  exact ⟨v, h1, h2, h3.mono hS⟩
end Go.Proofs.Ytlkfkdcdokinpaa
