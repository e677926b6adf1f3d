/-
  ClockRuns: two clocks side by side; equal numbers; what stays.
-/
import Derived.Test.YtjnhplgdbdneiaaFb
import Derived.Test.YtjnhplgdbdneiaaEa
set_option linter.unusedSimpArgs false
set_option linter.unusedVariables false
namespace Go.Proofs.Ytjnhplgdbdneiaa
open Go.RowKit Go.Fl

theorem wrap_sm {i n : Nat} (h : n ≤ 1048576) (hi : i < n) : wrap64 ((i : Int) + 1) = ((i + 1 : Nat) : Int) := wrap_to (by omega) (by omega)
theorem meas {M k : Nat} (h : M - (k + 1) < M - k) : M - (intOf (.int .i64 ((k + 1 : Nat) : Int))).toNat < M - (intOf (.int .i64 (k : Int))).toNat := h
set_option maxRecDepth 100000 in
set_option maxHeartbeats 1600000 in
/-- Lists of the same numbers are the same. -/
theorem ids13 (w : World) {z z2 : Value} {A : List Tm} (h1 : Sl w 3 1 z A.length (idc A)) (h2 : Sl w 3 1 z2 A.length (idc A)) (hl : A.length ≤ 1048576) : Calls Try.prog 13 #[z, z2] w fun e w' => e = .returned (.bool true) ∧ Only [] w w' := by
  obtain ⟨a1, c1, rfl, _⟩ := h1.shape
  obtain ⟨a2, c2, rfl, _⟩ := h2.shape
  have H1 := Lib.hid h1
  have H2 := Lib.hid h2
  have HL := Lib.hid hl
  obtain ⟨n, hn⟩ : ∃ n, A.length = n := ⟨_, rfl⟩
  have HN := Lib.hid hn
  rw [hn]
  clear h1 h2 hl hn
  go_enter Try.func13, Try.ntmps13
  go_wp2
  go_loopw [5] (fun z5 wr => ∃ i : Nat, z5 = .int .i64 i ∧ Hid (i ≤ n) ∧ Hid (Only [] w wr)) (fun z5 _ => n - (intOf z5).toNat)
  case atStart => exact ⟨0, rfl, Lib.hid (Nat.zero_le _), Lib.hid (Only.refl _ _)⟩
  case round =>
    obtain ⟨i, rfl, HI, HO⟩ := hrel
    by_cases hi : i < n
    case neg =>
      have hiz : ¬ (i : Int) < (n : Int) := by omega
      clear hi
      go_wp2
      exact bodyPost_ret (results_tmp rfl _ _ _) rfl ⟨rfl, HO.out⟩
    have hiz : (i : Int) < (n : Int) := by omega
    have HII := Lib.hid hi
    have hz : iv (A.getD i (0, 0)).1 = iv (A.getD i (0, 0)).1 := rfl
    have hia : i < A.length := by rw [HN.out]; exact hi
    have hg : (idc A)[i]? = some (iv (A.getD i (0, 0)).1) := by
      unfold idc
      rw [List.getElem?_map, List.getElem?_eq_getElem hia, getD_getElem hia]
      rfl
    obtain ⟨g1, o1, d1, he, _⟩ := H1.out.form (by omega)
    injection he with he _ he2
    subst he
    subst he2
    obtain ⟨g2, o2, d2, he, _⟩ := H2.out.form (by omega)
    injection he with he _ he2
    subst he
    subst he2
    have y1 := (H1.out.only HO.out (fun _ _ => by simp)).cells_ i _ hg
    have y2 := (H2.out.only HO.out (fun _ _ => by simp)).cells_ i _ hg
    rw [Addr.add_lit] at y1 y2
    have e8 := wrap_sm (HN.out ▸ HL.out) HII.out
    generalize (A.getD i (0, 0)).1 = x at *
    clear hi hia hg hz
    go_wp2_with fail
    go_quiet (fail)
    go_wp2
    go_roundw
    case measure => (try rw [e8]); exact meas (by have := HII.out; omega)
    case rel => exact ⟨i + 1, by first | rfl | rw [e8], Lib.hid HII.out, Lib.hid (by first | exact HO.out | exact HO.out.drewN _ | exact HO.out.drew)⟩
theorem CK.onlyS {S : List Nat} {w w' : World} {r now : Nat} {last : Int} {l : List Tm} {s : Value} (h : CK w r now last l s) (ho : Only S w w') (hr : r ∉ S) (hs : ∀ g, s.ownBlock = some g → g ∉ S) : CK w' r now last l s :=
  ⟨h.blk.only ho hr, h.sl.only ho hs, h.le⟩
/-- What is no clock's stays. -/
theorem sl_keepGW {w w' : World} {r now e size n : Nat} {last : Int} {l : List Tm} {s s' v : Value} {xs : List Value} (h : Sl w e size v n xs) (hc : CK w r now last l s) (hg : GW w r s w' s') (h1 : e ≠ 60) (h2 : e ≠ 70) : Sl w' e size v n xs :=
  h.only hg.only fun g hz hm => by
    obtain ⟨cur, hb⟩ := sl_ty h hz
    rcases List.mem_cons.1 hm with e | hm
    · exact Blk.ne_ hb hc.blk h1 e
    · obtain ⟨cur2, hb2⟩ := sl_ty hc.sl (show s.ownBlock = some g by simpa using hm)
      exact Blk.ne_ hb hb2 h2 rfl
/-- Two clocks side by side. -/
structure PP (w wr : World) (ra na : Nat) (la : Int) (l : List Tm) (sa : Value) (rb nb : Nat) (lb : Int) (m : List Tm) (sb : Value) : Prop where
  ca : CK wr ra na la l sa
  cb : CK wr rb nb lb m sb
  ne : ra ≠ rb
  dis : ∀ g, sa.ownBlock = some g → sb.ownBlock ≠ some g
  fa : w.heap.size ≤ ra
  fb : w.heap.size ≤ rb
  oa : ∀ g, sa.ownBlock = some g → w.heap.size ≤ g
  ob : ∀ g, sb.ownBlock = some g → w.heap.size ≤ g
  only : Only [] w wr
section
variable {w wr w3 : World} {ra na na2 : Nat} {la la2 : Int} {l l2 : List Tm} {sa sa2 : Value} {rb nb : Nat} {lb : Int} {m : List Tm} {sb : Value}
theorem PP.symm (h : PP w wr ra na la l sa rb nb lb m sb) : PP w wr rb nb lb m sb ra na la l sa :=
  ⟨h.cb, h.ca, h.ne.symm, fun g hb ha => h.dis g ha hb, h.fb, h.fa, h.ob, h.oa, h.only⟩
theorem PP.only0 (h : PP w wr ra na la l sa rb nb lb m sb) (ho : Only [] wr w3) : PP w w3 ra na la l sa rb nb lb m sb :=
  ⟨h.ca.only0 ho, h.cb.only0 ho, h.ne, h.dis, h.fa, h.fb, h.oa, h.ob, h.only.trans ho⟩
theorem PP.keepT (h : PP w wr ra na la l sa rb nb lb m sb) (hk : ∀ g t cur, Blk wr g t cur → t = 60 ∨ t = 70 → w3.heap[g]? = wr.heap[g]?) (ho : Only [] w w3) : PP w w3 ra na la l sa rb nb lb m sb :=
  ⟨h.ca.keepT hk, h.cb.keepT hk, h.ne, h.dis, h.fa, h.fb, h.oa, h.ob, ho⟩
theorem PP.left (h : PP w wr ra na la l sa rb nb lb m sb) (hc : CK w3 ra na2 la2 l2 sa2) (hg : GW wr ra sa w3 sa2) : PP w w3 ra na2 la2 l2 sa2 rb nb lb m sb := by
  have hsb : ∀ g, sb.ownBlock = some g → g < wr.heap.size ∧ g ≠ ra := fun g hs => by
    obtain ⟨cur, hb⟩ := sl_ty h.cb.sl hs
    exact ⟨hb.lt, Blk.ne_ hb h.ca.blk (by decide)⟩
  refine ⟨hc, h.cb.onlyS hg.only (fun hm => ?_) (fun g hs hm => ?_), h.ne, fun g hs hb => ?_, h.fa, h.fb, fun g hs => ?_, h.ob, h.only.trans' hg.only fun i hi => .inr ?_⟩
  · rcases List.mem_cons.1 hm with e | hm
    · exact h.ne e.symm
    · obtain ⟨cur2, hb2⟩ := sl_ty h.ca.sl (show sa.ownBlock = some rb by simpa using hm)
      exact Blk.ne_ h.cb.blk hb2 (by decide) rfl
  · rcases List.mem_cons.1 hm with e | hm
    · exact (hsb g hs).2 e
    · exact h.dis g (by simpa using hm) hs
  · rcases hg.own g hs with e | e
    · exact h.dis g e hb
    · have := (hsb g hb).1
      omega
  · rcases hg.own g hs with e | e
    · exact h.oa g e
    · have := h.only.size
      omega
  · rcases List.mem_cons.1 hi with e | hi
    · have := h.fa
      omega
    · exact h.oa i (by simpa using hi)
end
/-- Where a timer goes among those in order. -/
def insT (x : Tm) (L : List Tm) : List Tm := L.takeWhile (fun y => decide (y.2 ≤ x.2)) ++ x :: L.dropWhile (fun y => decide (y.2 ≤ x.2))
theorem Rel.ins {l L : List Tm} {last : Int} {t : Nat} (h : Rel l L) (hi : ∀ y ∈ L, y.1 ≤ last) : Rel (hpush l (last + 1, t)) (insT (last + 1, t) L) ∧ ∀ y ∈ insT (last + 1, t) L, y.1 ≤ last + 1 := by
  have hs := srt_part (t := t) h.srt
  have he := List.takeWhile_append_dropWhile (p := fun y : Tm => decide (y.2 ≤ t)) (l := L)
  refine ⟨?_, fun y hy => ?_⟩
  · have h2 := h
    rw [← he] at h2
    exact Rel.push (x := (last + 1, t)) h2 hs.1 hs.2 fun y hy => by
      have := hi y (by rw [← he]; exact List.mem_append_left _ hy)
      show y.1 < last + 1
      omega
  · unfold insT at hy
    rcases List.mem_append.1 hy with hy | hy
    · have := hi y (by rw [← he]; exact List.mem_append_left _ hy)
      omega
    · rcases List.mem_cons.1 hy with rfl | hy
      · exact Int.le_refl _
      · have := hi y (by rw [← he]; exact List.mem_append_right _ hy)
        omega
/-- What has gone off is told by the time alone. -/
theorem gone_eq {t : Nat} : ∀ {A B : List Tm}, (∀ x ∈ A, x.2 ≤ t) → (∀ x ∈ B.head?, t < x.2) → A = (A ++ B).takeWhile (fun y => decide (y.2 ≤ t)) ∧ B = (A ++ B).dropWhile (fun y => decide (y.2 ≤ t))
  | [], [], _, _ => ⟨rfl, rfl⟩
  | [], b :: B, _, h => by
    have := h b rfl
    rw [List.nil_append, List.takeWhile_cons_of_neg (by simpa using this), List.dropWhile_cons_of_neg (by simpa using this)]
    exact ⟨rfl, rfl⟩
  | a :: A, B, h1, h2 => by
    have ih := gone_eq (A := A) (B := B) (fun x hx => h1 x (List.mem_cons_of_mem _ hx)) h2
    have ha := h1 a List.mem_cons_self
    rw [List.cons_append, List.takeWhile_cons_of_pos (by simpa using ha), List.dropWhile_cons_of_pos (by simpa using ha), ← ih.1, ← ih.2]
    exact ⟨rfl, rfl⟩
theorem gone_uniq {t : Nat} {A B A' B' : List Tm} (h : A ++ B = A' ++ B') (h1 : ∀ x ∈ A, x.2 ≤ t) (h2 : ∀ x ∈ B.head?, t < x.2) (k1 : ∀ x ∈ A', x.2 ≤ t) (k2 : ∀ x ∈ B'.head?, t < x.2) : A = A' ∧ B = B' := by
  have a := gone_eq h1 h2
  have b := gone_eq k1 k2
  rw [h] at a
  exact ⟨a.1.trans b.1.symm, a.2.trans b.2.symm⟩
/-- A later length of time is one, too. -/
theorem later {x y : Nat} (hx : x < 18446744073709551616) (hy : y < 18446744073709551616) (hp : plB x = true) (h : (ford y x == some .gt) = true ∨ (ford y x == some .eq) = true) : plB y = true ∧ plV x ≤ plV y := by
  have h0 := of_decide_eq_true hp
  have hxr : rk x = (plV x : Int) := by
    rw [(plB_le hx hp).2]
    rcases rk_cases x with ⟨_, e⟩ | ⟨_, e⟩ <;> rw [e] at h0 ⊢
    omega
  have hN : isN y := by
    by_cases h3 : isN y
    · exact h3
    · rw [ford_nan (.inl h3)] at h
      rcases h with h | h <;> cases h
  have hr : rk x ≤ rk y := by
    rcases h with h | h
    · rw [ford_gt hN h0.1] at h
      have := of_decide_eq_true h
      omega
    · rw [ford_eq hN h0.1] at h
      have := of_decide_eq_true h
      omega
  have hpy : plB y = true := by
    unfold plB
    exact decide_eq_true ⟨hN, by omega⟩
  refine ⟨hpy, ?_⟩
  have hyr : rk y = (plV y : Int) := by
    have h1 := of_decide_eq_true hpy
    rw [(plB_le hy hpy).2]
    rcases rk_cases y with ⟨_, e⟩ | ⟨_, e⟩ <;> rw [e] at h1 ⊢
    omega
  omega
end Go.Proofs.Ytjnhplgdbdneiaa
