/-
  Clock: timers in memory; Len, Less, Swap.
-/
import Derived.Test.YtjnhplgdbdneiaaDc
set_option linter.unusedSimpArgs false
set_option linter.unusedVariables false
namespace Go.Proofs.Ytjnhplgdbdneiaa
open Go.RowKit Go.Fl

/-- The cells of timers. -/
def tcs (l : List Tm) : List Value := (l.map fun x => [iv x.1, fv x.2]).flatten
theorem tcs_cons (x : Tm) (l : List Tm) : tcs (x :: l) = iv x.1 :: fv x.2 :: tcs l := rfl
theorem tcs_append (l m : List Tm) : tcs (l ++ m) = tcs l ++ tcs m := by simp [tcs]
theorem tcs_len : ∀ (l : List Tm), (tcs l).length = l.length * 2
  | [] => rfl
  | x :: l => by rw [tcs_cons, List.length_cons, List.length_cons, List.length_cons, tcs_len l]; omega
theorem tcs_get : ∀ (l : List Tm) (i : Nat), i < l.length → (tcs l)[i * 2]? = some (iv (l.getD i (0, 0)).1) ∧ (tcs l)[i * 2 + 1]? = some (fv (l.getD i (0, 0)).2)
  | [], i, h => by simp at h
  | x :: l, 0, h => ⟨rfl, rfl⟩
  | x :: l, i + 1, h => by
    have h1 := tcs_get l i (by simpa using h)
    rw [tcs_cons, show (i + 1) * 2 = i * 2 + 1 + 1 by omega]
    exact h1
theorem tcs_take (l : List Tm) (i : Nat) : tcs (l.take i) = (tcs l).take (i * 2) := by
  induction l generalizing i with
  | nil => simp [tcs]
  | cons x l ih =>
    cases i with
    | zero => simp [tcs]
    | succ i => rw [List.take_succ_cons, tcs_cons, tcs_cons, ih, show (i + 1) * 2 = i * 2 + 1 + 1 by omega]; rfl
theorem tcs_drop (l : List Tm) (i : Nat) : tcs (l.drop i) = (tcs l).drop (i * 2) := by
  induction l generalizing i with
  | nil => simp [tcs]
  | cons x l ih =>
    cases i with
    | zero => simp
    | succ i => rw [List.drop_succ_cons, tcs_cons, ih, show (i + 1) * 2 = i * 2 + 1 + 1 by omega]; rfl
theorem tcs_set (l : List Tm) (i : Nat) (x : Tm) (h : i < l.length) : tcs (l.set i x) = (tcs l).take (i * 2) ++ [iv x.1, fv x.2] ++ (tcs l).drop (i * 2 + 2) := by
  rw [List.set_eq_take_append_cons_drop, if_pos h, tcs_append, tcs_cons, tcs_take, tcs_drop, show (i + 1) * 2 = i * 2 + 2 by omega]
  simp
/-- Timers in memory. -/
abbrev TSl (w : World) (s : Value) (l : List Tm) : Prop := Sl w 70 2 s l.length (tcs l)
theorem TSl.at_ {w : World} {g off cap n : Nat} {l : List Tm} (h : Sl w 70 2 (.slice (some ⟨g, off, none⟩) n cap) n (tcs l)) {i : Nat} (hi : i < l.length) :
    w.cell? ⟨g, off + i * 2, none⟩ = some (iv (l.getD i (0, 0)).1) ∧ w.cell? ⟨g, off + i * 2 + 1, none⟩ = some (fv (l.getD i (0, 0)).2) := by
  have h1 := tcs_get l i hi
  have h2 := h.cells_ _ _ h1.1
  have h3 := h.cells_ _ _ h1.2
  rw [Addr.add_lit] at h2 h3
  exact ⟨h2, by rw [Nat.add_assoc]; exact h3⟩
theorem row_set {cur : List Value} {off m N : Nat} {us xs : List Value} (hx : (cur.drop off).take N = xs) (hN : off + N ≤ cur.length) (hm : m + us.length ≤ N) :
    ((cur.take (off + m) ++ us ++ cur.drop (off + m + us.length)).drop off).take N = xs.take m ++ us ++ xs.drop (m + us.length) := by
  obtain ⟨A, X, C, rfl, hA, hX⟩ : ∃ A X C, cur = A ++ (X ++ C) ∧ A.length = off ∧ X.length = N := ⟨cur.take off, (cur.drop off).take N, (cur.drop off).drop N, by rw [List.take_append_drop, List.take_append_drop], by simp; omega, by simp; omega⟩
  subst hA
  rw [List.drop_left, List.take_left' hX] at hx
  subst hx
  have e1 : (A ++ (X ++ C)).take (A.length + m) = A ++ X.take m := by rw [List.take_length_add_append, List.take_append_of_le_length (by omega)]
  have e2 : (A ++ (X ++ C)).drop (A.length + m + us.length) = X.drop (m + us.length) ++ C := by rw [Nat.add_assoc, List.drop_length_add_append, List.drop_append_of_le_length (by omega)]
  rw [e1, e2, show A ++ X.take m ++ us ++ (X.drop (m + us.length) ++ C) = A ++ ((X.take m ++ us ++ X.drop (m + us.length)) ++ C) by simp only [List.append_assoc], List.drop_left]
  exact List.take_left' (by simp; omega)
/-- One of them is written. -/
theorem TSl.put {w w7 : World} {g off cap n : Nat} {l : List Tm} {cur : Array Value} {i : Nat} {x : Tm} (h : Sl w 70 2 (.slice (some ⟨g, off, none⟩) n cap) n (tcs l)) (hc : Blk w g 70 cur) (hi : i < l.length) (hn : l.length = n)
    (hB0 : Blk w7 g 70 (cur.toList.take (off + i * 2) ++ iv x.1 :: fv x.2 :: cur.toList.drop (off + i * 2 + 2)).toArray) : Sl w7 70 2 (.slice (some ⟨g, off, none⟩) n cap) n (tcs (l.set i x)) := by
  have hB : Blk w7 g 70 (cur.toList.take (off + i * 2) ++ [iv x.1, fv x.2] ++ cur.toList.drop (off + i * 2 + 2)).toArray := by rw [List.append_assoc]; exact hB0
  refine ⟨by rw [tcs_len, List.length_set]; omega, ?_⟩
  rcases h.2 with ⟨hv, _⟩ | ⟨g', off', cap', cur', hv, hh, q1, q2, q3, q4⟩
  · cases hv
  · injection hv with e1 _ e3
    injection e1 with e1
    injection e1 with e1 e2
    subst e1
    subst e2
    subst e3
    have hcc : cur' = cur := by
      have : some (Obj.cells cur' 70 (0, 0)) = some (Obj.cells cur 70 (0, 0)) := hh.symm.trans hc
      injection this with this
      injection this
    subst hcc
    have hcl : cur'.toList.length = cur'.size := Array.length_toList
    refine .inr ⟨g, off, cap, _, rfl, hB, q1, q2, ?_, ?_⟩
    · simp
      omega
    · have := row_set (cur := cur'.toList) (off := off) (m := i * 2) (N := n * 2) (us := [iv x.1, fv x.2]) q4 (by omega) (by simp; omega)
      rw [tcs_set _ _ _ hi]
      exact this
theorem TSl.fit {w : World} {g off cap n : Nat} {l : List Tm} (h : Sl w 70 2 (.slice (some ⟨g, off, none⟩) n cap) n (tcs l)) : ∃ cur, Blk w g 70 cur ∧ off + n * 2 ≤ cur.size := by
  rcases h.2 with ⟨hv, _⟩ | ⟨g', off', cap', cur', hv, hh, q1, q2, q3, q4⟩
  · cases hv
  · injection hv with e1 _ e3
    injection e1 with e1
    injection e1 with e1 e2
    subst e1
    subst e2
    subst e3
    exact ⟨cur', hh, by omega⟩
set_option maxRecDepth 100000 in
set_option maxHeartbeats 1600000 in
theorem less86 (w : World) {g off cap n : Nat} {l : List Tm} (h : Sl w 70 2 (.slice (some ⟨g, off, none⟩) n cap) n (tcs l)) (hn : l.length = n) (hb : ∀ x ∈ l, x.2 ≤ 9218868437227405312) {i j : Nat} (hi : i < n) (hj : j < n) :
    Calls Try.prog 86 #[.slice (some ⟨g, off, none⟩) n cap, iv i, iv j] w fun e w' => e = .returned (.bool (tlt (l.getD i (0, 0)) (l.getD j (0, 0)))) ∧ Only [] w w' := by
  obtain ⟨x0, x1⟩ := TSl.at_ h (show i < l.length by omega)
  obtain ⟨y0, y1⟩ := TSl.at_ h (show j < l.length by omega)
  have hm : ∀ k, k < l.length → (l.getD k (0, 0)).2 ≤ 9218868437227405312 := fun k hk => hb _ (by rw [List.getD_eq_getElem?_getD, List.getElem?_eq_getElem hk]; exact List.getElem_mem hk)
  have HX := Lib.hid (hm i (by omega))
  have HY := Lib.hid (hm j (by omega))
  rw [← ordI_lt]
  have hiz : (i : Int) < (n : Int) := by omega
  have hjz : (j : Int) < (n : Int) := by omega
  have hnz : (n : Int) ≤ (cap : Int) := by
    obtain ⟨a, c, e, hc, _⟩ := h.shape
    injection e with _ _ e
    omega
  clear hb hm h hi hj hn
  generalize l.getD i (0, 0) = x at *
  generalize l.getD j (0, 0) = y at *
  go_enter Try.func86, Try.ntmps86
  go_wp2
  refine Lex.wp_region_text (by kernel_rfl) (by kernel_rfl) ?_
  have HQ := Lib.hid (fun w => order33 w x y HX.out HY.out)
  go_wp2_with fail
  refine (HQ.out _).mono ?_
  rintro e w2 ⟨rfl, ho⟩
  go_wp2
  refine Lex.sq_done (by rfl) ?_
  go_wp2
  exact bodyPost_ret (results_tmp rfl _ _ _) rfl ⟨rfl, (Only.refl _ _).drew.trans ho⟩
set_option maxRecDepth 100000 in
set_option maxHeartbeats 1600000 in
theorem swap87 (w : World) {g off cap n : Nat} {l : List Tm} (h : Sl w 70 2 (.slice (some ⟨g, off, none⟩) n cap) n (tcs l)) (hn : l.length = n) {i j : Nat} (hi : i < n) (hj : j < n) :
    Calls Try.prog 87 #[.slice (some ⟨g, off, none⟩) n cap, iv i, iv j] w fun e w' => e = .returned (.tuple #[]) ∧ Sl w' 70 2 (.slice (some ⟨g, off, none⟩) n cap) n (tcs (swp l i j)) ∧ Only [g] w w' := by
  obtain ⟨x0, x1⟩ := TSl.at_ h (show i < l.length by omega)
  obtain ⟨y0, y1⟩ := TSl.at_ h (show j < l.length by omega)
  obtain ⟨cur, hB, hfit⟩ := TSl.fit h
  have HS := Lib.hid h
  have HB := Lib.hid hB
  have hiz : (i : Int) < (n : Int) := by omega
  have hjz : (j : Int) < (n : Int) := by omega
  have hnz : (n : Int) ≤ (cap : Int) := by
    obtain ⟨a, c, e, hc, _⟩ := h.shape
    injection e with _ _ e
    omega
  have HN := Lib.hid (And.intro hn (And.intro hi (And.intro hj hfit)))
  unfold swp
  have HL := Lib.hid (show (l.set i (l.getD j (0, 0))).length = n by simp [hn])
  clear h hi hj hn hB hfit
  generalize l.getD i (0, 0) = x at *
  generalize l.getD j (0, 0) = y at *
  go_enter Try.func87, Try.ntmps87
  go_wp2
  refine Lex.wp_region_text (by kernel_rfl) (by kernel_rfl) ?_
  go_wp2_with (refine wpList_store_blk (g := g) (k := off + i * 2) rfl 70 (.tmp 18) (.tmp 13) rfl [iv y.1, fv y.2] rfl rfl HB.out.drew (by kernel_rfl) (by obtain ⟨h1, h2, h3, h4⟩ := HN.out; simp; omega) (by simp [Value.oneCell']) ?_)
  intro w2 hB2 hO2
  have HS2 := Lib.hid (TSl.put (i := i) (x := y) HS.out HB.out (by obtain ⟨h1, h2, h3, h4⟩ := HN.out; omega) HN.out.1 hB2)
  have HB2 := Lib.hid hB2
  have HO2 := Lib.hid ((Only.refl [g] w).drew.trans hO2)
  clear hB2 hO2 HB HS
  go_wp2_with (refine wpList_store_blk (g := g) (k := off + j * 2) rfl 70 (.tmp 19) (.tmp 17) rfl [iv x.1, fv x.2] rfl rfl HB2.out (by kernel_rfl) (by obtain ⟨h1, h2, h3, h4⟩ := HN.out; have hcl : cur.toList.length = cur.size := Array.length_toList; simp; omega) (by simp [Value.oneCell']) ?_)
  intro w3 hB3 hO3
  have HS3 := Lib.hid (TSl.put (i := j) (x := x) HS2.out HB2.out (by obtain ⟨h1, h2, h3, h4⟩ := HN.out; have := HL.out; omega) HL.out hB3)
  have HO3 := Lib.hid (HO2.out.trans hO3)
  clear hB3 hO3
  go_wp2
  refine Lex.sq_done (by rfl) ?_
  go_wp2
  exact bodyPost_end (results_none rfl _ _ _) rfl ⟨rfl, HS3.out, HO3.out⟩
end Go.Proofs.Ytjnhplgdbdneiaa
