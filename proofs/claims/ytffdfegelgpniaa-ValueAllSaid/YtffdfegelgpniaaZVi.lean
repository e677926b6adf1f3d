/-
  Items: their order.
-/
import Derived.Test.YtffdfegelgpniaaZVh
set_option linter.unusedSimpArgs false
set_option linter.unusedVariables false
set_option linter.unusedSimpArgs false
set_option linter.unusedVariables false
namespace Go.Proofs.Ytffdfegelgpniaa
open Go.RowKit Go.Fl

mutual
/-- How two items stand. -/
def I.cmp : I → I → Int
  | .void, y => cmpI 1 y.kind
  | .truth a, y => match y with | .truth b => cmpI a b | y => cmpI 2 y.kind
  | .whole a, y => match y with | .whole b => cmpI a b | y => cmpI 3 y.kind
  | .number a, y => match y with | .number b => cmpI (keyR a) (keyR b) | y => cmpI 4 y.kind
  | .text a, y => match y with | .text b => Lib.compareBytes a.data.toList b.data.toList | y => cmpI 5 y.kind
  | .list l, y => match y with | .list m => cmps l m | y => cmpI 6 y.kind
def cmps : List I → List I → Int
  | [], m => cmpI 0 m.length
  | a :: l, m => match m with | [] => 1 | b :: m => if a.cmp b ≠ 0 then a.cmp b else cmps l m
end
theorem cmp_kind {x y : I} (h : x.kind ≠ y.kind) : x.cmp y = cmpI x.kind y.kind := by
  cases x <;> cases y <;> first | rfl | exact absurd rfl h
theorem cmpI_zero {a b : Int} : cmpI a b = 0 ↔ a = b := by
  unfold cmpI
  split
  · constructor
    · intro h; cases h
    · omega
  · split
    · constructor
      · intro h; cases h
      · omega
    · constructor
      · omega
      · intro _; rfl
def I.f_ag : I → FuncId
  | .void => 89 | .truth _ => 94 | .whole _ => 101 | .number _ => 109 | .text _ => 119 | .list _ => 127
theorem m_ag {w : World} {F : Nat → Prop} {x : I} {u : Value} (h : IIs w F x u) (w' : World) : (method 235 x.typ u "flume/value.against").run Try.prog w' = .ok (x.f_ag, u) w' := by
  cases h with
  | void => kernel_rfl
  | truth => kernel_rfl
  | whole => kernel_rfl
  | number => kernel_rfl
  | text => kernel_rfl
  | list => kernel_rfl
theorem c_ag (x : I) (args : Array Value) (w : World) : (callFunc x.f_ag args).run Try.prog w = .ok (.enter x.f_ag args) w := by
  cases x <;> kernel_rfl
def CmpOk (x : I) : Prop := ∀ (w : World) (F G : Nat → Prop) (u v : Value) (y : I), IIs w F x u → IIs w G y v → Calls Try.prog 43 #[.iface x.typ u, .iface y.typ v] w fun e w' => e = .returned (iv (x.cmp y)) ∧ Only [] w w'
def AgOk (x : I) : Prop := ∀ (w : World) (F G : Nat → Prop) (u v : Value) (y : I), IIs w F x u → IIs w G y v → x.kind = y.kind → Calls Try.prog x.f_ag #[u, .iface y.typ v] w fun e w' => e = .returned (iv (x.cmp y)) ∧ Only [] w w'
set_option maxRecDepth 100000 in
theorem cmp_of_ag (x : I) (H : AgOk x) : CmpOk x := by
  intro w F G u v y hx hy
  have HX := Lib.hid hx
  have HY := Lib.hid hy
  have hm1 := m_kind hx
  have hm2 := c_kind x
  have hm3 := m_kind hy
  have hm4 := c_kind y
  have HK := Lib.hid (kind_ok hx)
  clear hx hy
  by_cases hk : x.kind = y.kind
  · have HK0 := Lib.hid (show cmpI x.kind y.kind = 0 from cmpI_zero.2 hk)
    have HKE := Lib.hid hk
    clear hk
    go_enter Try.func43, Try.ntmps43
    go_wp2_with fail
    refine HK.out.mono ?_
    clear HK
    rintro e w1 ⟨rfl, ho1⟩
    have HK2 := Lib.hid (kind_ok (HY.out.only0 ho1))
    have HO1 := Lib.hid ho1
    clear ho1 hm1 hm2
    go_wp2_with fail
    refine HK2.out.mono ?_
    clear HK2
    rintro e w2 ⟨rfl, ho2⟩
    have HO2 := Lib.hid (HO1.out.trans ho2)
    clear ho2 HO1 hm3 hm4
    go_wp2_with fail
    refine (cmp61 _ _ _).mono ?_
    rintro e w3 ⟨rfl, rfl⟩
    rw [HK0.out]
    have hm1 := m_ag HX.out
    have hm2 := c_ag x
    have HA := Lib.hid (H w3 F G u v y (HX.out.only0 HO2.out) (HY.out.only0 HO2.out) HKE.out)
    go_wp2_with fail
    refine HA.out.mono ?_
    clear HA hm1 hm2
    rintro e w4 ⟨rfl, ho4⟩
    have HO4 := Lib.hid (HO2.out.trans ho4)
    clear ho4
    go_wp2
    exact bodyPost_ret (results_tmp rfl _ _ _) rfl ⟨rfl, HO4.out⟩
  · have hk0 : (cmpI x.kind y.kind != 0) = true := by rw [bne_iff_ne]; exact fun h => hk (cmpI_zero.1 h)
    have HC := Lib.hid (cmp_kind hk)
    have HKE := Lib.hid hk
    clear hk
    rw [HC.out]
    go_enter Try.func43, Try.ntmps43
    go_wp2_with fail
    refine HK.out.mono ?_
    clear HK
    rintro e w1 ⟨rfl, ho1⟩
    have HK2 := Lib.hid (kind_ok (HY.out.only0 ho1))
    have HO1 := Lib.hid ho1
    clear ho1 hm1 hm2
    go_wp2_with fail
    refine HK2.out.mono ?_
    clear HK2
    rintro e w2 ⟨rfl, ho2⟩
    have HO2 := Lib.hid (HO1.out.trans ho2)
    clear ho2 HO1 hm3 hm4
    go_wp2_with fail
    refine (cmp61 _ _ _).mono ?_
    rintro e w3 ⟨rfl, rfl⟩
    go_wp2
    exact bodyPost_ret (results_tmp rfl _ _ _) rfl ⟨rfl, HO2.out⟩
theorem cmps_drop {l m : List I} {n : Nat} (h1 : n < l.length) (h2 : n < m.length) : cmps (l.drop n) (m.drop n) = if l[n].cmp m[n] ≠ 0 then l[n].cmp m[n] else cmps (l.drop (n + 1)) (m.drop (n + 1)) := by
  rw [List.drop_eq_getElem_cons h1, List.drop_eq_getElem_cons h2]
  rfl
theorem cmps_end {l m : List I} {n : Nat} (h1 : n ≤ l.length) (h2 : n ≤ m.length) (h : ¬ (n < l.length ∧ n < m.length)) : cmps (l.drop n) (m.drop n) = cmpI l.length m.length := by
  by_cases hl : n < l.length
  · obtain rfl : n = m.length := by omega
    rw [List.drop_length, List.drop_eq_getElem_cons hl]
    unfold cmpI
    rw [if_neg (by omega), if_pos (by omega)]
    rfl
  · obtain rfl : n = l.length := by omega
    rw [List.drop_length]
    show cmpI 0 (m.drop l.length).length = _
    unfold cmpI
    simp only [List.length_drop]
    by_cases h3 : l.length < m.length
    · rw [if_pos (by omega), if_pos (by omega)]
    · rw [if_neg (by omega), if_neg (by omega), if_neg (by omega), if_neg (by omega)]
set_option maxRecDepth 100000 in
set_option maxHeartbeats 3200000 in
theorem ag_list (l : List I) (H : ∀ j (h : j < l.length), CmpOk l[j]) : AgOk (.list l) := by
  intro w F G u v y hx hy hk
  cases hx with
  | @list _ a cap us hc hm hcell hi =>
  cases hy with
  | void => cases hk
  | truth => cases hk
  | whole => cases hk
  | number => cases hk
  | text => cases hk
  | @list m a2 cap2 vs hc2 hm2 hcell2 hi2 =>
  have HC := Lib.hid hcell
  have HI := Lib.hid hi
  have HC2 := Lib.hid hcell2
  have HI2 := Lib.hid hi2
  have HH := Lib.hid H
  clear hcell hi H hcell2 hi2 hk
  have hlm : l.length ≤ maxLen := by omega
  have hlm2 : m.length ≤ maxLen := by omega
  unfold maxLen at hlm hlm2
  show Calls Try.prog 127 #[_, .iface 112 _] w (fun e w' => e = .returned (iv (cmps l m)) ∧ _)
  have ht : ∀ v w, (Instr.typeAssert (.iface 112 v) 73 112 false).run Try.prog w = .ok v w := fun _ _ => by kernel_rfl
  go_enter Try.func127, Try.ntmps127
  go_wp2
  clear ht
  go_loopw [6] (fun c wr => ∃ n : Nat, n ≤ l.length ∧ n ≤ m.length ∧ c = .int .i64 n ∧ Hid (cmps l m = cmps (l.drop n) (m.drop n)) ∧ Hid (Only [] w wr)) (fun c _ => l.length - (intOf c).toNat)
  case atStart => exact ⟨0, Nat.zero_le _, Nat.zero_le _, rfl, Lib.hid rfl, Lib.hid (Only.refl _ _)⟩
  case round =>
    obtain ⟨n, hn, hn2, rfl, HE, HO⟩ := hrel
    by_cases hnl : n < l.length
    · have hnz : (n : Int) < (l.length : Int) := by omega
      by_cases hnm : n < m.length
      · have hnz2 : (n : Int) < (m.length : Int) := by omega
        obtain ⟨g, off, rfl, hg, hFg, hcc⟩ := HC.out (by omega)
        obtain ⟨g2, off2, rfl, hg2, hFg2, hcc2⟩ := HC2.out (by omega)
        have x0 : wr.cell? ⟨g, off + n, none⟩ = _ := (HO.out.cell (p := ⟨g, off + n, none⟩) hg (by simp)).trans (hcc n hnl)
        have x1 : wr.cell? ⟨g2, off2 + n, none⟩ = _ := (HO.out.cell (p := ⟨g2, off2 + n, none⟩) hg2 (by simp)).trans (hcc2 n hnm)
        have HT := Lib.hid (HH.out n hnl wr.drew F G (us n) (vs n) m[n] ((HI.out n hnl).only0 HO.out.drew) ((HI2.out n hnm).only0 HO.out.drew))
        have HS := Lib.hid (cmps_drop hnl hnm)
        generalize hxn : l[n] = xn at *
        generalize hyn : m[n] = yn at *
        clear hcc HC hcc2 HC2 hxn hyn
        generalize us n = un at *
        generalize vs n = vn at *
        go_wp2
        refine Lex.wp_region_text (by kernel_rfl) (by kernel_rfl) ?_
        go_wp2_with fail
        refine HT.out.mono ?_
        clear HT
        rintro e w2 ⟨rfl, ho2⟩
        have HO2 := Lib.hid ((HO.out.drew).trans ho2)
        clear ho2
        go_wp2
        refine Lex.sq_done (by rfl) ?_
        by_cases hc : xn.cmp yn = 0
        · have HN := Lib.hid (show cmps l m = cmps (l.drop (n + 1)) (m.drop (n + 1)) by rw [HE.out, HS.out, if_neg (by simp [hc])])
          rw [hc]
          clear HE HS hc
          go_wp2
          go_roundw
          case measure => simp [intOf]; omega
          case rel => exact ⟨n + 1, by omega, by omega, by go_num, HN, HO2⟩
        · have HN := Lib.hid (show cmps l m = xn.cmp yn by rw [HE.out, HS.out, if_pos hc])
          have hc1 : (xn.cmp yn != 0) = true := by rw [bne_iff_ne]; exact hc
          clear HE HS
          go_wp2
          refine bodyPost_ret (results_tmp rfl _ _ _) rfl ⟨?_, HO2.out⟩
          exact congrArg (fun z => Ending.returned (iv z)) HN.out.symm
      · have hnz2 : ¬ (n : Int) < (m.length : Int) := by omega
        have HL := Lib.hid (HE.out.trans (cmps_end hn hn2 (by omega)))
        clear HE HC HC2 HH
        go_wp2_with fail
        refine (cmp61 _ _ _).mono ?_
        rintro e w3 ⟨rfl, rfl⟩
        go_wp2
        refine bodyPost_ret (results_tmp rfl _ _ _) rfl ⟨?_, HO.out⟩
        exact congrArg (fun z => Ending.returned (iv z)) HL.out.symm
    · have hnz : ¬ (n : Int) < (l.length : Int) := by omega
      have HL := Lib.hid (HE.out.trans (cmps_end hn hn2 (by omega)))
      clear HE HC HC2 HH
      go_wp2_with fail
      refine (cmp61 _ _ _).mono ?_
      rintro e w3 ⟨rfl, rfl⟩
      go_wp2
      refine bodyPost_ret (results_tmp rfl _ _ _) rfl ⟨?_, HO.out⟩
      exact congrArg (fun z => Ending.returned (iv z)) HL.out.symm
set_option maxRecDepth 100000 in
theorem ag_ok (x : I) : AgOk x := by
  refine I.rec (motive_1 := AgOk) (motive_2 := fun l => ∀ x ∈ l, AgOk x) ?_ ?_ ?_ ?_ ?_ ?_ ?_ ?_ x
  · rintro w F G u v y hu hv hk
    cases hu
    cases hv with
    | void =>
      show Calls Try.prog 89 _ w _
      go_enter Try.func89, Try.ntmps89
      go_wp2
      exact bodyPost_ret (results_tmp rfl _ _ _) rfl ⟨rfl, (Only.refl _ _).alloc _⟩
    | _ => cases hk
  · rintro n w F G u v y hu hv hk
    cases hu with
    | truth n hn =>
    cases hv with
    | truth m hm =>
      have ht : ∀ v w, (Instr.typeAssert (.iface 104 v) 73 104 false).run Try.prog w = .ok v w := fun _ _ => by kernel_rfl
      show Calls Try.prog 94 #[_, .iface 104 _] w _
      go_enter Try.func94, Try.ntmps94
      go_wp2_with fail
      refine (cmp99 _ _ _).mono ?_
      rintro e w1 ⟨rfl, rfl⟩
      go_wp2
      exact bodyPost_ret (results_tmp rfl _ _ _) rfl ⟨rfl, Only.refl _ _⟩
    | _ => cases hk
  · rintro n w F G u v y hu hv hk
    cases hu with
    | whole n hn =>
    cases hv with
    | whole m hm =>
      have ht : ∀ v w, (Instr.typeAssert (.iface 105 v) 73 105 false).run Try.prog w = .ok v w := fun _ _ => by kernel_rfl
      show Calls Try.prog 101 #[_, .iface 105 _] w _
      go_enter Try.func101, Try.ntmps101
      go_wp2_with fail
      refine (cmp106 _ _ _).mono ?_
      rintro e w1 ⟨rfl, rfl⟩
      go_wp2
      exact bodyPost_ret (results_tmp rfl _ _ _) rfl ⟨rfl, Only.refl _ _⟩
    | _ => cases hk
  · rintro n w F G u v y hu hv hk
    cases hu with
    | number n hn =>
    cases hv with
    | number m hm =>
      have ht : ∀ v w, (Instr.typeAssert (.iface 106 v) 73 106 false).run Try.prog w = .ok v w := fun _ _ => by kernel_rfl
      show Calls Try.prog 109 #[_, .iface 106 _] w _
      go_enter Try.func109, Try.ntmps109
      go_wp2_with fail
      refine (realCmp _ _ _ hn hm).mono ?_
      rintro e w1 ⟨rfl, rfl⟩
      go_wp2
      exact bodyPost_ret (results_tmp rfl _ _ _) rfl ⟨rfl, Only.refl _ _⟩
    | _ => cases hk
  · rintro n w F G u v y hu hv hk
    cases hu with
    | text n hn =>
    cases hv with
    | text m hm =>
      have ht : ∀ v w, (Instr.typeAssert (.iface 107 v) 73 107 false).run Try.prog w = .ok v w := fun _ _ => by kernel_rfl
      show Calls Try.prog 119 #[_, .iface 107 _] w _
      go_enter Try.func119, Try.ntmps119
      go_wp2_with fail
      refine (strcmp _ _ _).mono ?_
      rintro e w1 ⟨rfl, rfl⟩
      go_wp2
      exact bodyPost_ret (results_tmp rfl _ _ _) rfl ⟨rfl, Only.refl _ _⟩
    | _ => cases hk
  · intro l hl
    exact ag_list l fun j h => cmp_of_ag _ (hl _ (List.getElem_mem h))
  · intro x hx; cases hx
  · intro a l ha hl x hx
    rcases List.mem_cons.1 hx with rfl | hx
    · exact ha
    · exact hl x hx
theorem cmp_ok (x : I) : CmpOk x := cmp_of_ag x (ag_ok x)
end Go.Proofs.Ytffdfegelgpniaa
