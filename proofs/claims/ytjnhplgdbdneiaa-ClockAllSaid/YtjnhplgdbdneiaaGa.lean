/-
  ClockAll: the document's clock in memory: New, Next, Go, Jump.
-/
import Derived.Test.YtjnhplgdbdneiaaFc
import Derived.Test.YtjnhplgdbdneiaaLex4
set_option linter.unusedSimpArgs false
set_option linter.unusedVariables false
namespace Go.Proofs.Ytjnhplgdbdneiaa
open Go.RowKit Go.Fl

/-- The document's clock. -/
structure DK (w : World) (q now : Nat) (n : Int) (L : List Tm) (v : Value) : Prop where
  blk : Blk w q 54 #[fv now, v, iv n]
  sl : Sl w 70 2 v L.length (tcs L)
  le : ∀ x ∈ L, x.2 ≤ 9218868437227405312
theorem DK.only0 {w w' : World} {q now : Nat} {n : Int} {L : List Tm} {v : Value} (h : DK w q now n L v) (ho : Only [] w w') : DK w' q now n L v :=
  ⟨h.blk.only ho (by simp), h.sl.only ho (fun _ _ => by simp), h.le⟩
theorem DK.ne {w : World} {q now : Nat} {n : Int} {L : List Tm} {v : Value} (h : DK w q now n L v) : v.ownBlock ≠ some q := fun e => by
  obtain ⟨cur, hb⟩ := sl_ty h.sl e
  exact Blk.ne_ h.blk hb (by decide) rfl
theorem DK.keepT {w w' : World} {q now : Nat} {n : Int} {L : List Tm} {v : Value} (h : DK w q now n L v) (hk : ∀ g t cur, Blk w g t cur → t = 54 ∨ t = 70 → w'.heap[g]? = w.heap[g]?) : DK w' q now n L v :=
  ⟨(hk q 54 _ h.blk (.inl rfl)).trans h.blk, h.sl.keep fun g hg => by
    obtain ⟨cur, hb⟩ := sl_ty h.sl hg
    exact hk g 70 cur hb (.inr rfl), h.le⟩
set_option maxRecDepth 100000 in
theorem new17 (w : World) (x : Nat) (hx : x < 18446744073709551616) : Calls Try.prog 17 #[fv x] w fun e w' =>
    ((plB x = true ∧ plV x ≠ 9218868437227405312) ∧ e = .returned (.tuple #[cp w.heap.size, iv 0]) ∧ DK w' w.heap.size (plV x) 0 [] (.slice none 0 0) ∧ Only [] w w') ∨ (¬ (plB x = true ∧ plV x ≠ 9218868437227405312) ∧ e = .returned (.tuple #[.pointer none, iv 1]) ∧ w' = w) := by
  have HP := Lib.hid (plain35 w x)
  have HI := Lib.hid (inf11 w (plV x) (plV_lt hx))
  go_enter Try.func17, Try.ntmps17
  go_wp2_with fail
  refine HP.out.mono ?_
  rintro e w1 ⟨rfl, rfl⟩
  cases hb : plB x
  · go_wp2
    exact bodyPost_ret (results2 rfl (res_tmp rfl) (res_tmp rfl)) rfl (.inr ⟨fun h => by simp [hb] at h, rfl, rfl⟩)
  · go_wp2_with fail
    refine HI.out.mono ?_
    rintro e w1 ⟨rfl, rfl⟩
    by_cases hi : plV x = 9218868437227405312
    · rw [decide_eq_true hi]
      go_wp2
      exact bodyPost_ret (results2 rfl (res_tmp rfl) (res_tmp rfl)) rfl (.inr ⟨fun h => h.2 hi, rfl, rfl⟩)
    · rw [decide_eq_false hi]
      go_wp2
      exact bodyPost_ret (results2 rfl (res_tmp rfl) (res_tmp rfl)) rfl (.inl ⟨⟨hb, hi⟩, rfl, ⟨Blk.new _ _ _, Sl.nil _ _ _, fun y hy => by cases hy⟩, (Only.refl _ _).alloc _⟩)
set_option maxRecDepth 100000 in
set_option maxHeartbeats 1600000 in
theorem next40 (w : World) {q now : Nat} {n : Int} {L : List Tm} {v : Value} (h : DK w q now n L v) : Calls Try.prog 40 #[cp q] w fun e w' => e = .returned (.tuple #[fv (nextV L), .bool (nextB L)]) ∧ w' = w := by
  have x1 := h.blk.cell 1
  have xl := h.blk.lt
  simp at x1
  unfold nextV nextB
  by_cases h0 : L = []
  · rw [if_pos (.inl h0), decide_eq_false (by simp [h0])]
    obtain ⟨a, cap, rfl, _⟩ := h.sl.shape
    subst h0
    clear h
    go_enter Try.func40, Try.ntmps40
    go_wp2
    exact bodyPost_ret (results2 rfl (res_tmp rfl) (res_tmp rfl)) rfl ⟨rfl, rfl⟩
  · have hl : 0 < L.length := List.length_pos_iff.2 h0
    obtain ⟨k, hk⟩ : ∃ k, k = L.length := ⟨_, rfl⟩
    obtain ⟨g, off, cap, rfl, _⟩ := h.sl.form hl
    obtain ⟨y0, y1⟩ := TSl.at_ h.sl hl
    have hle : (L.getD 0 (0, 0)).2 ≤ 9218868437227405312 := h.le _ (by rw [List.getD_eq_getElem?_getD, List.getElem?_eq_getElem hl]; exact List.getElem_mem hl)
    rw [← hk] at x1
    have hz : (0 : Int) < (k : Int) := by omega
    have hnz : ((k : Int) == 0) = false := by rw [beq_eq_false_iff_ne]; omega
    have HI := Lib.hid (inf11 w _ (show (L.getD 0 (0, 0)).2 < 18446744073709551616 by omega))
    simp only [Nat.zero_mul, Nat.add_zero] at y0 y1
    have H0 := Lib.hid h0
    clear h hl hle hk
    generalize L.getD 0 (0, 0) = x at *
    by_cases hi : x.2 = 9218868437227405312
    · rw [if_pos (.inr hi), decide_eq_false (by simp [hi])]
      rw [decide_eq_true hi] at HI
      clear hi h0
      go_enter Try.func40, Try.ntmps40
      go_wp2_with fail
      refine HI.out.mono ?_
      clear HI
      rintro e w1 ⟨rfl, rfl⟩
      go_wp2
      exact bodyPost_ret (results2 rfl (res_tmp rfl) (res_tmp rfl)) rfl ⟨rfl, rfl⟩
    · rw [if_neg (by simp [hi, h0]), decide_eq_true (by simp [hi, h0])]
      rw [decide_eq_false hi] at HI
      clear hi h0
      go_enter Try.func40, Try.ntmps40
      go_wp2_with fail
      refine HI.out.mono ?_
      clear HI
      rintro e w1 ⟨rfl, rfl⟩
      go_wp2
      exact bodyPost_ret (results2 rfl (res_tmp rfl) (res_tmp rfl)) rfl ⟨rfl, rfl⟩
/-- Timers have gone off at the document's clock: A of them; B are left. -/
structure DG (w wr : World) (q t : Nat) (n : Int) (L : List Tm) (v : Value) (A B : List Tm) (v' z : Value) : Prop where
  eq : L = A ++ B
  le : ∀ x ∈ A, x.2 ≤ t
  ck : DK wr q t n B v'
  gw : GW w q v wr v'
  sl : Sl wr 3 1 z A.length (idc A)
  fresh : ∀ g, z.ownBlock = some g → w.heap.size ≤ g
/-- What the document's Go answers, and leaves. -/
def DGoPost (w : World) (q now d : Nat) (n : Int) (L : List Tm) (v : Value) (e : Ending) (w' : World) : Prop :=
  if plB d = true ∧ now ≤ plV d ∧ plV d ≠ 9218868437227405312 then
    ∃ A B v' z, e = .returned (.tuple #[z, iv 0]) ∧ DG w w' q (plV d) n L v A B v' z ∧ ∀ x ∈ B.head?, plV d < x.2
  else e = .returned (.tuple #[.slice none 0 0, iv 1]) ∧ w' = w
/-- The first one's number is told; then the others are copied. -/
theorem DG.step1 {w wr w4 : World} {q t : Nat} {n : Int} {L A B' : List Tm} {b : Tm} {v v' : Value} {z b2 : Value} (h : DG w wr q t n L v A (b :: B') v' z)
    (hS : Sl w4 3 1 b2 (A.length + 1) (idc A ++ [iv b.1])) (hg : (wr.alloc (.cells #[iv b.1] 3)).grownBy w4 z.ownBlock) (hat : b2.ownBlock = z.ownBlock ∨ b2.ownBlock = some (wr.heap.size + 1)) (hbt : b.2 ≤ t) :
    DK w4 q t n (b :: B') v' ∧ GW w q v w4 v' ∧ (∀ g, b2.ownBlock = some g → w.heap.size ≤ g) ∧ wr.heap.size ≤ w4.heap.size := by
  have hk : ∀ g' t' cur, Blk wr g' t' cur → t' ≠ 3 → w4.heap[g']? = wr.heap[g']? := fun g' t' cur hb ht => by
    have h1 := hg.block g' (hb.alloc (.cells #[iv b.1] 3)).lt fun e => by
      obtain ⟨cur2, hb2⟩ := sl_ty h.sl e.symm
      exact Blk.ne_ hb hb2 ht rfl
    exact h1.trans (Below.heap_alloc wr _ g' hb.lt)
  have hc4 := h.ck.keepT fun g' t' cur hb ht => hk g' t' cur hb (by rcases ht with rfl | rfl <;> decide)
  refine ⟨hc4, ⟨(h.gw.only.alloc _).grown hg fun k hk2 => .inr (h.fresh k hk2), h.gw.own⟩, fun g' hg' => ?_, ?_⟩
  · rcases hat with e | e
    · exact h.fresh g' (e ▸ hg')
    · rw [e] at hg'
      injection hg' with hg'
      have := h.gw.only.size
      rw [← hg']
      omega
  · have := hg.size
    simp at this
    omega
/-- The others have been copied. -/
theorem DG.step2 {w w4 w5 : World} {q t : Nat} {n : Int} {L A B' : List Tm} {b : Tm} {v v' v5 : Value} {b2 : Value} (hL : L = A ++ b :: B') (hle : ∀ x ∈ A, x.2 ≤ t) (hbt : b.2 ≤ t)
    (hS : Sl w4 3 1 b2 (A.length + 1) (idc A ++ [iv b.1])) (hc : DK w4 q t n (b :: B') v') (hg : GW w q v w4 v') (hf : ∀ g, b2.ownBlock = some g → w.heap.size ≤ g) (hsz : w.heap.size ≤ w4.heap.size)
    (h5 : Sl w5 70 2 v5 B'.length (tcs B')) (hgr : w4.grownBy w5 none) (hat : v5.ownBlock = none ∨ v5.ownBlock = some w4.heap.size) :
    DG w (w5.setCell ⟨q, 1, none⟩ v5) q t n L v (A ++ [b]) B' v5 b2 := by
  have hk : ∀ g, g < w4.heap.size → w5.heap[g]? = w4.heap[g]? := fun g hg => hgr.block g hg (by simp)
  have hb5 : Blk w5 q 54 #[fv t, v', iv n] := (hk q hc.blk.lt).trans hc.blk
  have ho : Only [] w4 w5 := ⟨hgr.os, hgr.tape, hgr.output, hgr.size, fun k hk2 _ => hk k hk2⟩
  have hq : ∀ g, v5.ownBlock = some g → g ≠ q := fun g hg => by
    have := hc.blk.lt
    rcases hat with e | e
    · rw [e] at hg; cases hg
    · rw [e] at hg; injection hg with hg; omega
  refine ⟨by rw [hL]; simp, fun x hx => ?_, ⟨?_, h5.keep fun g hg => Below.heap_setCell w5 _ _ g (hq g hg), fun x hx => hc.le x (List.mem_cons_of_mem _ hx)⟩, ⟨?_, fun g hg => .inr ?_⟩, ?_, hf⟩
  · rcases List.mem_append.1 hx with hx | hx
    · exact hle x hx
    · rw [List.mem_singleton.1 hx]; exact hbt
  · have := hb5.set_ 1 v5
    simpa using this
  · exact (hg.only.trans (ho.mono (by simp))).setCell (.inl (by simp)) _
  · rcases hat with e | e
    · rw [e] at hg; cases hg
    · rw [e] at hg; injection hg with hg; omega
  · rw [List.length_append, idc_append]
    refine (hS.only ho (fun _ _ => by simp)).keep fun g hg2 => Below.heap_setCell w5 _ _ g fun e => ?_
    obtain ⟨cur, hb⟩ := sl_ty hS hg2
    exact Blk.ne_ hb hc.blk (by decide) e
end Go.Proofs.Ytjnhplgdbdneiaa
