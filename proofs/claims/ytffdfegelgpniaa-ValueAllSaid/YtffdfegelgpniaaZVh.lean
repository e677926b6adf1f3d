/-
  Items: kinds, sizes.
-/
import Derived.Test.YtffdfegelgpniaaZVg
set_option linter.unusedSimpArgs false
set_option linter.unusedVariables false
set_option linter.unusedSimpArgs false
set_option linter.unusedVariables false
namespace Go.Proofs.Ytffdfegelgpniaa
open Go.RowKit Go.Fl

mutual
def I.size : I → Nat
  | .text t => 1 + t.size
  | .list l => 1 + sizes l
  | _ => 1
def sizes : List I → Nat
  | [] => 0
  | x :: l => x.size + sizes l
end
theorem sizes_append : ∀ (a b : List I), sizes (a ++ b) = sizes a + sizes b
  | [], _ => by simp [sizes]
  | x :: a, b => by simp only [List.cons_append, sizes, sizes_append a b]; omega
def I.f_size : I → FuncId
  | .void => 93 | .truth _ => 98 | .whole _ => 105 | .number _ => 113 | .text _ => 123 | .list _ => 131
theorem m_size {w : World} {F : Nat → Prop} {x : I} {u : Value} (h : IIs w F x u) (w' : World) : (method 235 x.typ u "flume/value.size").run Try.prog w' = .ok (x.f_size, u) w' := by
  cases h with
  | void => kernel_rfl
  | truth => kernel_rfl
  | whole => kernel_rfl
  | number => kernel_rfl
  | text => kernel_rfl
  | list => kernel_rfl
theorem c_size (x : I) (args : Array Value) (w : World) : (callFunc x.f_size args).run Try.prog w = .ok (.enter x.f_size args) w := by
  cases x <;> kernel_rfl
def SizeOk (x : I) : Prop := ∀ (w : World) (F : Nat → Prop) (u : Value), IIs w F x u → x.size ≤ 65536 → Calls Try.prog x.f_size #[u] w fun e w' => e = .returned (iv x.size) ∧ Only [] w w'
set_option maxRecDepth 100000 in
set_option maxHeartbeats 3200000 in
theorem size_list (l : List I) (H : ∀ j (h : j < l.length), SizeOk l[j]) : SizeOk (.list l) := by
  intro w F u hu hs
  cases hu with
  | @list _ a cap us hc hm hcell hi =>
  have HC := Lib.hid hcell
  have HI := Lib.hid hi
  have HH := Lib.hid H
  clear hcell hi H
  have hlm : l.length ≤ maxLen := by omega
  unfold maxLen at hlm
  show Calls Try.prog 131 _ w _
  go_enter Try.func131, Try.ntmps131
  go_wp2
  go_loopw [3, 8] (fun z c wr => ∃ n : Nat, n ≤ l.length ∧ c = .int .i64 n ∧ z = iv (1 + sizes (l.take n) : Nat) ∧ Hid (Only [] w wr)) (fun _ c _ => l.length - (intOf c).toNat)
  case atStart => exact ⟨0, Nat.zero_le _, rfl, rfl, Lib.hid (Only.refl _ _)⟩
  case round =>
    obtain ⟨n, hn, rfl, rfl, HO⟩ := hrel
    by_cases hnl : n < l.length
    · have hnz : (n : Int) < (l.length : Int) := by omega
      obtain ⟨g, off, rfl, hg, hFg, hcc⟩ := HC.out (by omega)
      have x0 : wr.cell? ⟨g, off + n, none⟩ = _ := (HO.out.cell (p := ⟨g, off + n, none⟩) hg (by simp)).trans (hcc n hnl)
      have HSN := Lib.hid (show sizes (l.take (n + 1)) = sizes (l.take n) + l[n].size by rw [List.take_succ_eq_append_getElem hnl, sizes_append]; simp [sizes])
      have hle : 1 + sizes (l.take n) + l[n].size ≤ 65536 := by
        have h1 : sizes l = sizes (l.take (n + 1)) + sizes (l.drop (n + 1)) := by rw [← sizes_append, List.take_append_drop]
        have h2 : 1 + sizes l ≤ 65536 := by simpa [I.size] using hs
        rw [HSN.out] at h1
        omega
      have HT := Lib.hid (HH.out n hnl wr F (us n) ((HI.out n hnl).only0 HO.out) (by omega))
      have hm1 := m_size (HI.out n hnl)
      have hm2 := c_size l[n]
      clear hcc HC hs
      generalize sizes (l.take n) = m at *
      go_wp2_with fail
      refine HT.out.mono ?_
      clear HT
      rintro e w2 ⟨rfl, ho2⟩
      have HO2 := Lib.hid (HO.out.trans ho2)
      have HF : Hid (iv ((1 + m : Nat) + (l[n].size : Int)) = iv (1 + sizes (l.take (n + 1)) : Nat)) := Lib.hid (by rw [HSN.out]; congr 1; push_cast; omega)
      clear HSN ho2
      go_wp2
      go_roundw
      case measure => simp [intOf]; omega
      case rel => exact ⟨n + 1, by omega, by go_num, HF.out, HO2⟩
    · obtain rfl : n = l.length := by omega
      rw [List.take_length]
      clear HC HI HH
      go_wp2
      refine bodyPost_ret (results_tmp rfl _ _ _) rfl ⟨?_, HO.out⟩
      exact congrArg (fun z => Ending.returned (iv z)) (by simp [I.size])
set_option maxRecDepth 100000 in
theorem size_ok (x : I) : SizeOk x := by
  refine I.rec (motive_1 := SizeOk) (motive_2 := fun l => ∀ x ∈ l, SizeOk x) ?_ ?_ ?_ ?_ ?_ ?_ ?_ ?_ x
  · rintro w F u hu hs
    cases hu
    go_enter Try.func93, Try.ntmps93
    go_wp2
    refine bodyPost_ret (results_tmp rfl _ _ _) rfl ⟨?_, ?_⟩
    · first | rfl | exact congrArg (fun z => Ending.returned (iv z)) rfl
    · (repeat (first | with_reducible exact Only.refl _ _ | with_reducible exact Only.refl _ _ | with_reducible refine Only.drew ?_ | with_reducible refine Only.drewN ?_ _ | with_reducible refine Only.alloc ?_ _ | ((with_reducible refine Only.setCell ?_ ?_ _); rotate_left; (focus (first | (left; simp; done) | (right; simp; done) | (right; simp; omega) | (right; omega))))))
  · rintro n w F u hu hs
    cases hu
    go_enter Try.func98, Try.ntmps98
    go_wp2
    exact bodyPost_ret (results_tmp rfl _ _ _) rfl ⟨rfl, Only.refl _ _⟩
  · rintro n w F u hu hs
    cases hu
    go_enter Try.func105, Try.ntmps105
    go_wp2
    exact bodyPost_ret (results_tmp rfl _ _ _) rfl ⟨rfl, Only.refl _ _⟩
  · rintro n w F u hu hs
    cases hu
    go_enter Try.func113, Try.ntmps113
    go_wp2
    exact bodyPost_ret (results_tmp rfl _ _ _) rfl ⟨rfl, Only.refl _ _⟩
  · rintro t w F u hu hs
    have hs2 : 1 + t.size ≤ 65536 := hs
    cases hu
    go_enter Try.func123, Try.ntmps123
    go_wp2
    refine bodyPost_ret (results_tmp rfl _ _ _) rfl ⟨?_, Only.refl _ _⟩
    exact congrArg (fun z => Ending.returned (iv z)) (by simp [I.size])
  · intro l hl
    exact size_list l fun j h => hl _ (List.getElem_mem h)
  · intro x hx; cases hx
  · intro a l ha hl x hx
    rcases List.mem_cons.1 hx with rfl | hx
    · exact ha
    · exact hl x hx
def I.kind : I → Int
  | .void => 1 | .truth _ => 2 | .whole _ => 3 | .number _ => 4 | .text _ => 5 | .list _ => 6
def I.f_kind : I → FuncId
  | .void => 91 | .truth _ => 96 | .whole _ => 103 | .number _ => 111 | .text _ => 121 | .list _ => 129
theorem m_kind {w : World} {F : Nat → Prop} {x : I} {u : Value} (h : IIs w F x u) (w' : World) : (method 235 x.typ u "flume/value.kind").run Try.prog w' = .ok (x.f_kind, u) w' := by
  cases h with
  | void => kernel_rfl
  | truth => kernel_rfl
  | whole => kernel_rfl
  | number => kernel_rfl
  | text => kernel_rfl
  | list => kernel_rfl
theorem c_kind (x : I) (args : Array Value) (w : World) : (callFunc x.f_kind args).run Try.prog w = .ok (.enter x.f_kind args) w := by
  cases x <;> kernel_rfl
set_option maxRecDepth 100000 in
theorem kind_ok {w : World} {F : Nat → Prop} {x : I} {u : Value} (h : IIs w F x u) : Calls Try.prog x.f_kind #[u] w fun e w' => e = .returned (iv x.kind) ∧ Only [] w w' := by
  cases x
  · cases h
    go_enter Try.func91, Try.ntmps91
    go_wp2
    exact bodyPost_ret (results_tmp rfl _ _ _) rfl ⟨rfl, by first | exact Only.refl _ _ | exact (Only.refl _ _).alloc _⟩
  · cases h
    go_enter Try.func96, Try.ntmps96
    go_wp2
    exact bodyPost_ret (results_tmp rfl _ _ _) rfl ⟨rfl, by first | exact Only.refl _ _ | exact (Only.refl _ _).alloc _⟩
  · cases h
    go_enter Try.func103, Try.ntmps103
    go_wp2
    exact bodyPost_ret (results_tmp rfl _ _ _) rfl ⟨rfl, by first | exact Only.refl _ _ | exact (Only.refl _ _).alloc _⟩
  · cases h
    go_enter Try.func111, Try.ntmps111
    go_wp2
    exact bodyPost_ret (results_tmp rfl _ _ _) rfl ⟨rfl, by first | exact Only.refl _ _ | exact (Only.refl _ _).alloc _⟩
  · cases h
    go_enter Try.func121, Try.ntmps121
    go_wp2
    exact bodyPost_ret (results_tmp rfl _ _ _) rfl ⟨rfl, by first | exact Only.refl _ _ | exact (Only.refl _ _).alloc _⟩
  · cases h
    go_enter Try.func129, Try.ntmps129
    go_wp2
    exact bodyPost_ret (results_tmp rfl _ _ _) rfl ⟨rfl, by first | exact Only.refl _ _ | exact (Only.refl _ _).alloc _⟩
/-- The size of what may be is no more than the room it took. -/
theorem x_dummy : True := trivial
end Go.Proofs.Ytffdfegelgpniaa
