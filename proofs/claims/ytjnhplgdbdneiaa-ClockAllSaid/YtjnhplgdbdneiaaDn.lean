/-
  Clock: append of a list of another type; Timers.
-/
import Derived.Test.YtjnhplgdbdneiaaDm
set_option linter.unusedSimpArgs false
set_option linter.unusedVariables false
namespace Go.Proofs.Ytjnhplgdbdneiaa
open Go.RowKit Go.Fl

theorem append_arg {P : Program} {w : World} {t t2 ty e e2 : TypeId} (ht : P.underlying t = some (.slice e)) (h2 : P.underlying t2 = some (.slice e2)) (a : Option Addr) (n cap : Nat) (x : Value) : (Builtin.append_ #[t, t2] ty #[.slice a n cap, x]).run P w = (Builtin.append_ #[t, t] ty #[.slice a n cap, x]).run P w := by
  unfold Builtin.append_
  simp [run_underlying ht, run_underlying h2]
theorem wpList_append_slsG {P : Program} {w : World} {ops : Array Oper} {rest : List Oper} {o : Oper} {a : Act} {Q : Exit → Act → World → Prop} (hgd : o.guard = none) (s x : Operand) (t t2 : TypeId)
    (ho : o.op = .call { callee := .builtin .append, args := #[s, x], argTypes := #[t, t2] })
    (e : TypeId) (i : TypeInfo) (z : Value) (size bytes : Nat) (ht : P.underlying t = some (.slice e)) {e2 : TypeId} (ht2 : P.underlying t2 = some (.slice e2)) (hi : P.info? e = some i) (hz : i.zero = some z)
    (hsize : i.size = size) (hby : i.bytes = bytes) (hzs : z.cells.size = size) (hsz : 0 < size)
    {v : Value} {n : Nat} {xs : List Value} (hs : a.eval s = v) (hown : Sl w e size v n xs)
    {vx : Value} {m : Nat} {news : List Value} (hx : a.eval x = vx) (hxs : Sl w e size vx m news) (h1 : ∀ u ∈ news, u.oneCell' = true)
    (h63 : n + m ≤ maxLen) (hbytes : (n + m) * bytes ≤ 140737488355328)
    (h : ∀ v' w', Sl w' e size v' (n + m) (xs ++ news) → w.grownBy w' v.ownBlock → (v'.ownBlock = v.ownBlock ∨ v'.ownBlock = some w.heap.size) → wpList P ops Q rest (a.put o.dst v') w') : wpList P ops Q (o :: rest) a w := by
  refine wpList_plain hgd fun K hK => ?_
  obtain ⟨v', w', hr, h2, h3, h4⟩ := run_append_sls (P := P) t o.type e i z size bytes ht hi hz hsize hby hzs hsz hown hxs h1 h63 hbytes
  obtain ⟨a0, c0, rfl, _⟩ := hown.shape
  rw [← append_arg ht ht2] at hr
  unfold Oper.wp execOp
  simp only [ho, resolve, invoke, builtin, Sem.run_bind, Sem.run_pure, Result.andThen_ok, List.map_toArray, List.map_cons, List.map_nil, hs, hx, hr]
  exact hK _ _ (h v' w' h2 h3 h4)
/-- The sort of timers, as far as it is known. -/
def SortOk (N : Nat) : Prop := ∀ (w : World) (g off cap : Nat) (d : List Tm), DS w g off cap N d →
  Calls Try.prog 32 #[.slice (some ⟨g, off, none⟩) N cap, cmpF] w fun e w' => e = .returned (.tuple #[]) ∧ ∃ d', DS w' g off cap N d' ∧ RP 0 N d d' ∧ SR d' 0 N ∧ Only [g] w w'
set_option maxRecDepth 100000 in
theorem sort_small {N : Nat} (h : N ≤ 12) : SortOk N := by
  intro w g off cap d hd
  have HL := Lib.hid (fun w => Try.bits_Len (N : Int) w (by omega) (by omega))
  have HQ := Lib.hid (fun lim => pdq_small w hd (a := 0) (b := N) (Nat.le_refl _) (by omega) (Nat.zero_le _) (by omega) lim)
  have hw := IntWalk.u64_in (N : Int) (by omega)
  clear h hd
  go_enter Try.func32, Try.ntmps32
  go_wp2_with fail
  refine (HL.out _).mono ?_
  rintro e w1 ⟨rfl, rfl⟩
  go_wp2_with fail
  refine (HQ.out _).mono ?_
  rintro e w2 ⟨rfl, hh⟩
  have HH := Lib.hid hh
  clear hh
  go_wp2
  exact bodyPost_end (results_none rfl _ _ _) rfl ⟨rfl, HH.out⟩
set_option maxRecDepth 100000 in
theorem sort_nil (w : World) : Calls Try.prog 32 #[.slice none 0 0, cmpF] w fun e w' => e = .returned (.tuple #[]) ∧ w' = w := by
  have hi : ∀ w, Calls Try.prog 51 #[.slice none 0 0, iv 0, iv 0, cmpF] w fun e w' => e = .returned (.tuple #[]) ∧ w' = w := fun w => by
    go_enter Try.func51, Try.ntmps51
    go_wp2
    go_loopw [8] (fun z wr => z = .int .i64 1 ∧ wr = w) (fun _ _ => 0)
    case atStart => exact ⟨rfl, rfl⟩
    case round =>
      obtain ⟨rfl, rfl⟩ := hrel
      go_wp2
      exact bodyPost_end (results_none rfl _ _ _) rfl ⟨rfl, rfl⟩
  have hp : ∀ w lim, Calls Try.prog 45 #[.slice none 0 0, iv 0, iv 0, iv lim, cmpF] w fun e w' => e = .returned (.tuple #[]) ∧ w' = w := fun w lim => by
    have HI := Lib.hid (hi w)
    go_enter Try.func45, Try.ntmps45
    go_wp2
    go_loopw [1, 2] (fun za zb wr => za = .int .i64 0 ∧ zb = .int .i64 0 ∧ wr = w) (fun _ _ _ => 0)
    case atStart => exact ⟨rfl, rfl, rfl⟩
    case round =>
      obtain ⟨rfl, rfl, rfl⟩ := hrel
      go_wp2_with fail
      refine HI.out.mono ?_
      rintro e w2 ⟨rfl, rfl⟩
      go_wp2
      exact bodyPost_ret (results_none rfl _ _ _) rfl ⟨rfl, rfl⟩
  have HL := Lib.hid (fun w => Try.bits_Len 0 w (by omega) (by omega))
  have HP := Lib.hid hp
  clear hi hp
  go_enter Try.func32, Try.ntmps32
  go_wp2_with fail
  refine (HL.out _).mono ?_
  rintro e w1 ⟨rfl, rfl⟩
  go_wp2_with fail
  refine (HP.out _ _).mono ?_
  rintro e w2 ⟨rfl, rfl⟩
  go_wp2
  exact bodyPost_end (results_none rfl _ _ _) rfl ⟨rfl, rfl⟩
/-- The timers, told: in order, in memory of their own. -/
def TimersPost (w : World) (l : List Tm) (e : Ending) (w' : World) : Prop :=
  ∃ v d, e = .returned v ∧ Sl w' 70 2 v l.length (tcs d) ∧ d.Perm l ∧ SR d 0 l.length ∧ (∀ g, v.ownBlock = some g → w.heap.size ≤ g) ∧ Only [] w w'
set_option maxRecDepth 100000 in
set_option maxHeartbeats 1600000 in
theorem timers15 {w : World} {r now : Nat} {last : Int} {l : List Tm} {s : Value} (h : CK w r now last l s) (hs : SortOk l.length) (hmx : l.length ≤ 1048576) : Calls Try.prog 15 #[cp r] w (TimersPost w l) := by
  obtain ⟨j70, si, sz0, sz1, sz2⟩ := info_parts info70
  have HT := Lib.hid (there_ck h)
  have H := Lib.hid h
  have HS := Lib.hid hs
  have HM := Lib.hid hmx
  have x3 := h.blk.cell 3
  simp at x3
  obtain ⟨a, cap, rfl, _⟩ := h.sl.shape
  have HSN := Lib.hid (Sl.nil w 70 2)
  clear h hs hmx
  by_cases h0 : l.length = 0
  · have HP := Lib.hid (show TimersPost w l (.returned (.slice none 0 0)) w from by
      obtain rfl : l = [] := List.length_eq_zero_iff.1 h0
      exact ⟨_, [], rfl, Sl.nil _ _ _, List.Perm.refl _, fun i j _ _ hj => absurd hj (Nat.not_lt_zero _), fun g hg => (by cases hg), Only.refl _ _⟩)
    have HQ := Lib.hid (sort_nil w)
    rw [h0] at x3
    clear h0
    cases a with
    | none =>
      go_enter Try.func15, Try.ntmps15
      go_wp2_with fail
      refine HT.out.mono ?_
      rintro e w1 ⟨rfl, rfl⟩
      go_wp2_with fail
      refine HQ.out.mono ?_
      rintro e w2 ⟨rfl, rfl⟩
      go_wp2
      refine bodyPost_ret (results_tmp rfl _ _ _) rfl ?_
      exact HP.out
    | some a =>
      go_enter Try.func15, Try.ntmps15
      go_wp2_with fail
      refine HT.out.mono ?_
      rintro e w1 ⟨rfl, rfl⟩
      go_wp2_with fail
      refine HQ.out.mono ?_
      rintro e w2 ⟨rfl, rfl⟩
      go_wp2
      refine bodyPost_ret (results_tmp rfl _ _ _) rfl ?_
      exact HP.out
  have HN0 := Lib.hid h0
  clear h0
  go_enter Try.func15, Try.ntmps15
  go_wp2_with fail
  refine HT.out.mono ?_
  rintro e w1 ⟨rfl, rfl⟩
  clear HT
  go_wp2_with (at_builtin; refine wpList_append_slsG rfl (.const (.slice none 0 0)) (.tmp 10) 39 58 rfl 70 j70 _ 2 16 Try.underlying39 Try.underlying58 si sz0 sz1 sz2 rfl (by decide) rfl HSN.out rfl H.out.sl (by intro u hu; obtain ⟨y, hy, hu⟩ := List.mem_flatten.1 hu; obtain ⟨t, _, rfl⟩ := List.mem_map.1 hy; simp at hu; rcases hu with rfl | rfl <;> rfl) (by have := HM.out; unfold maxLen; omega) (by have := HM.out; omega) ?_)
  intro b2 w4 hS hg hat
  have ho4 : Only [] w1 w4 := (Only.refl [] w1).grown hg fun k hk => by cases hk
  have hfr : ∀ g, b2.ownBlock = some g → w1.heap.size ≤ g := fun g hg2 => by
    rcases hat with e | e
    · rw [e] at hg2; cases hg2
    · rw [e] at hg2; injection hg2 with hg2; omega
  · obtain ⟨g, off, c4, hb2, _⟩ := hS.form (by have := HN0.out; omega)
    subst hb2
    have HD := Lib.hid (show DS w4 g off c4 l.length l from ⟨hS, rfl, H.out.le⟩)
    have HO4 := Lib.hid ho4
    have HFR := Lib.hid (hfr g rfl)
    have HQ := Lib.hid (HS.out w4 g off c4 l HD.out)
    clear hS hg hat ho4 hfr
    go_wp2_with fail
    refine HQ.out.mono ?_
    rintro e w5 ⟨rfl, d, hd, hp, hsr, ho⟩
    have HR := Lib.hid (show TimersPost w1 l (.returned (.slice (some ⟨g, off, none⟩) l.length c4)) w5 from
      ⟨_, d, rfl, hd.sl, hp.perm, hsr, fun g' hg' => by
        have : g = g' := by simpa [Value.ownBlock] using hg'
        have := HFR.out
        omega, HO4.out.trans' ho fun i hi => .inr (by have := HFR.out; simp at hi; omega)⟩)
    clear hd hp hsr ho
    go_wp2
    refine bodyPost_ret (results_tmp rfl _ _ _) rfl ?_
    exact HR.out
end Go.Proofs.Ytjnhplgdbdneiaa
