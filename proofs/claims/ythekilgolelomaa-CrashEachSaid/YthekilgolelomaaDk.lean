/-
  The disk: how many bytes fit.
-/
import Derived.Test.YthekilgolelomaaDj
set_option linter.unusedSimpArgs false
set_option linter.unusedVariables false
namespace Go.Proofs.Ythekilgolelomaa
open Go.RowKit Go.Fl

/-- How many entries an iterator has left. -/
def itLeft (w : World) (it : Nat) : Nat := match w.heap[it]? with
  | some (.mapIter (some b) _ seen _) => match w.heap[b]? with
    | some (.map es _) => (Go.Fl.left es seen).length
    | _ => 0
  | _ => 0
theorem it_left {w : World} {it b : Nat} {d : Dir} {l : List (Nm × Nat)} (h : RIter w it b d l) : itLeft w it = l.length := by
  obtain ⟨es, clock, m, seen, h1, h2, h3, h4, h5, h6⟩ := h
  unfold itLeft
  rw [h5]
  dsimp only
  rw [h1]
  dsimp only
  rw [h6.length_eq, List.length_map]
def lens (fs : Nat → FD) (l : List (Nm × Nat)) : Int := ((l.map fun x => (fs x.2).b.length).sum : Nat)
theorem lens_perm {fs : Nat → FD} {l : List (Nm × Nat)} {s : Nm} {f : Nat} {l' : List (Nm × Nat)} (h : l.Perm ((s, f) :: l')) : lens fs l = (fs f).b.length + lens fs l' := by
  unfold lens
  rw [(h.map _).sum_nat]
  simp
theorem lens_le {fs : Nat → FD} {l : List (Nm × Nat)} (h : ∀ x ∈ l, (fs x.2).Ok) : 0 ≤ lens fs l ∧ lens fs l ≤ l.length * 1073741824 := by
  unfold lens
  induction l with
  | nil => simp
  | cons x l ih =>
    have h1 := ih fun y hy => h y (List.mem_cons_of_mem _ hy)
    have h2 := (h x (by simp)).2.2
    simp only [List.map_cons, List.sum_cons, List.length_cons]
    omega
/-- How many bytes fit. -/
def PD.room (p : PD) (fs : Nat → FD) : Int := max (p.most - lens fs p.now) 0
section
variable {w w' : World} {F G : Nat → Prop} {d : Nat} {p p' : PD} {fs : Nat → FD} {ids : Nat → Prop} {nb lb : Nat} {pv fv pv' fv' : Value} {bv lv : Nat → Value}
theorem room_step {m U t n : Int} (h1 : 0 ≤ m ∧ m ≤ 16777216) (h2 : 0 ≤ U ∧ U ≤ 274877906944) (h3 : 0 ≤ t) (h4 : t ≤ U) (hn : 0 ≤ n) (h5 : n ≤ t) : wrap64 (m - (U - t) - n) = m - (U - (t - n)) := by
  rw [wrap_d (by omega)]
  omega
set_option maxRecDepth 100000 in
set_option maxHeartbeats 1600000 in
theorem room_ok (h : Dk w F d p fs ids nb lb pv fv bv lv) : Calls Try.prog 33 #[cp d] w fun e w' => e = .returned (iv (p.room fs)) ∧ Only [] w w' := by
  have H := Lib.hid h
  have HFO := Lib.hid (fun x (hx : x ∈ p.now) => (h.fs.file x.2 (h.live.now x hx)).ok)
  have HU := Lib.hid (show 0 ≤ lens fs p.now ∧ lens fs p.now ≤ 274877906944 from by
    have h1 := lens_le HFO.out
    have h2 := h.ok.len.1
    refine ⟨h1.1, Int.le_trans h1.2 ?_⟩
    omega)
  have HM := Lib.hid h.ok.most
  have x2 := h.dm.blk.cell 2
  have x3 := h.dm.blk.cell 3
  have xl := h.dm.blk.lt
  simp [dcells] at x2 x3
  have HN := Lib.hid h.dm.now
  unfold PD.room
  obtain ⟨U, hU⟩ : ∃ U, lens fs p.now = U := ⟨_, rfl⟩
  obtain ⟨m, hm⟩ : ∃ m, p.most = m := ⟨_, rfl⟩
  have HUE := Lib.hid hU
  rw [hU] at HU ⊢
  rw [hm] at HM x2 ⊢
  clear h hU hm
  go_enter Try.func33, Try.ntmps33
  go_wp2_with (refine wpList_drange rfl (.tmp 13) 56 rfl 9 78 Try.underlying56 rfl HN.out ?_)
  intro w1 hr1 ho1 _
  have HR1 := Lib.hid hr1
  have HO1 := Lib.hid ho1
  clear hr1 ho1 x2 x3 xl
  go_wp2
  go_loopw [3] (fun z wr => ∃ l, z = iv (m - (U - lens fs l)) ∧ Hid (RIter wr w.heap.size nb p.now l) ∧ Hid (Only [] w wr) ∧ Hid (∃ l2, p.now.Perm (l2 ++ l))) (fun _ wr => itLeft wr w.heap.size)
  case atStart => exact ⟨p.now, by rw [HUE.out]; simp, HR1, HO1, Lib.hid ⟨[], List.Perm.refl _⟩⟩
  case round =>
    obtain ⟨l, rfl, HR, HO, HP⟩ := hrel
    go_wp2_with (refine wpList_dnext rfl (.tmp 14) rfl rfl HR.out ?_ ?_)
    · intro hl
      subst hl
      clear HFO HUE
      go_wp2
      all_goals
        refine bodyPost_ret (results_tmp rfl _ _ _) rfl ⟨?_, HO.out⟩
        exact congrArg (fun n => Ending.returned (iv n)) (by simp [lens] at *; omega)
    · intro s f l' w2 hp hr2 ho2 hz he
      have HR2 := Lib.hid hr2
      have HO2 := Lib.hid (show Only [] w w2 from HO.out.trans' ho2 fun i hi => .inr (by simp at hi; omega))
      have HME := Lib.hid (show itLeft w2 w.heap.size < itLeft wr w.heap.size by rw [it_left hr2, it_left HR.out, hp.length_eq]; exact Nat.lt_succ_self _)
      obtain ⟨l2, hl2⟩ := HP.out
      have HP2 := Lib.hid (show ∃ l2, p.now.Perm (l2 ++ l') from ⟨l2 ++ [(s, f)], by
        rw [List.append_assoc]
        exact hl2.trans (hp.append_left l2)⟩)
      have hmem : (s, f) ∈ p.now := hl2.mem_iff.2 (List.mem_append.2 (.inr (hp.mem_iff.2 (by simp))))
      have hfm := H.out.fs.file f (H.out.live.now _ hmem)
      have hle : lens fs l ≤ U := by
        rw [← HUE.out]
        unfold lens
        rw [(hl2.map _).sum_nat]
        simp
        omega
      have hl0 : 0 ≤ lens fs l' := by unfold lens; omega
      have e1 := lens_perm (fs := fs) hp
      have hfb := (hfm.ok).2.2
      have HST := Lib.hid (show wrap64 (m - (U - lens fs l) - ((fs f).b.length : Nat)) = m - (U - lens fs l') by
        rw [room_step HM.out HU.out (by omega) hle (by omega) (by omega), e1]
        omega)
      have hb2 := hfm.blk.only HO2.out (by simp)
      have x0 := hb2.cell 0
      have xl := hb2.lt
      obtain ⟨ba, bc, hbv, _, _⟩ := hfm.b.shape
      simp at x0
      rw [hbv] at x0
      clear hp hr2 ho2 hz hl2 hmem hfm hle hl0 e1 hfb hb2 hbv HP HUE HFO
      go_wp2
      go_roundw
      case measure => exact HME.out
      case rel => exact ⟨l', by rw [HST.out], HR2, HO2, HP2⟩
end
end Go.Proofs.Ythekilgolelomaa
