import Derived.Test.YtlkfkdcdokinpaaQj
namespace Go.Proofs.Ytlkfkdcdokinpaa
open Go.RowKit Go.Fl

section
variable {w wi : World} {q : Nat} {cap bytes : Int} {held line : List Item} {S : List Nat}
theorem QStep.then {w2 : World} {held2 line2 : List Item} (h : QStep w wi q S cap bytes held line) (hn : ∀ S', QIs wi q S' cap bytes held line → QStep wi w2 q S' cap bytes held2 line2) : QStep w w2 q S cap bytes held2 line2 := by
  obtain ⟨S', h1, h2, h3⟩ := h
  exact .trans h2 h3 (hn S' h1)
theorem mine_put (id size : Int) (h : QStep w wi q [] cap bytes held line) : Calls Try.prog 8 #[.pointer (some ⟨q, 0, none⟩), .int .i64 id, .int .i64 size] wi fun e w' => e = .returned (bi (putM cap bytes held line id size).1) ∧
      QStep w w' q [] cap bytes (putM cap bytes held line id size).2.1 (putM cap bytes held line id size).2.2 := by
  obtain ⟨S', h1, h2, h3⟩ := h
  exact (put_ok id size wi h1).mono fun _ _ ⟨e, hh⟩ => ⟨e, .trans h2 h3 hh⟩
theorem mine_take (most byt : Int) (h : QStep w wi q [] cap bytes held line) : Calls Try.prog 9 #[.pointer (some ⟨q, 0, none⟩), .int .i64 most, .int .i64 byt] wi fun e w' => ∃ v u, e = .returned (.tuple #[v, u]) ∧
      Fresh wi w' v (takeM cap bytes held line most byt).1.1 ∧ FreshI wi w' u (takeM cap bytes held line most byt).1.2 ∧ QStep w w' q [] cap bytes (takeM cap bytes held line most byt).2.1 (takeM cap bytes held line most byt).2.2 := by
  obtain ⟨S', h1, h2, h3⟩ := h
  exact (take_ok most byt wi h1).mono fun _ _ ⟨v, u, e, hv, hu, hh⟩ => ⟨v, u, e, hv, hu, .trans h2 h3 hh⟩
theorem mine_look (h : QStep w wi q [] cap bytes held line) : Calls Try.prog 10 #[.pointer (some ⟨q, 0, none⟩)] wi fun e w' => e = .returned (.agg #[.int .i64 held.length, .int .i64 (sum held), .int .i64 line.length]) ∧ QStep w w' q [] cap bytes held line ∧ Only [] wi w' := by
  obtain ⟨S', h1, h2, h3⟩ := h
  exact (look_ok wi h1).mono fun _ _ ⟨e, hh⟩ => ⟨e, ⟨S', h1.only hh (by simp), h2.trans hh, h3⟩, hh⟩
theorem mine_line (h : QStep w wi q [] cap bytes held line) : Calls Try.prog 11 #[.pointer (some ⟨q, 0, none⟩)] wi fun e w' => ∃ v, e = .returned v ∧ Fresh wi w' v line ∧ QStep w w' q [] cap bytes held line ∧ Only [] wi w' := by
  obtain ⟨S', h1, h2, h3⟩ := h
  exact (line_ok wi h1).mono fun _ _ ⟨v, e, hv, hh⟩ => ⟨v, e, hv, ⟨S', h1.only hh (by simp), h2.trans hh, h3⟩, hh⟩
theorem QStep.out (h : QStep w wi q [] cap bytes held line) : Only [] w wi := by
  obtain ⟨S', _, h2, _⟩ := h
  exact h2
end

set_option maxRecDepth 100000 in
set_option maxHeartbeats 1600000 in
theorem begun_ok (w : World) : Calls Try.prog 6 #[] w fun e w' => e = .returned (.bool true) ∧ Only [] w w' := by
  have HC := Lib.hid (new_ok 2 100 w (by decide))
  go_enter Try.func6, Try.ntmps6
  go_wp2_with fail
  refine HC.out.mono ?_
  rintro e w1 ⟨q, rfl, h1⟩
  have HC := Lib.hid (show Calls Try.prog 8 #[.pointer (some ⟨q, 0, none⟩), .int .i64 1, .int .i64 60] w1 fun e w' => e = .returned (.tuple #[.bool true, .int .i64 0]) ∧ QStep w w' q [] 2 100 [(1, 60)] [] from mine_put 1 60 h1)
  clear h1
  go_wp2_with fail
  refine HC.out.mono ?_
  rintro e w2 ⟨rfl, h2⟩
  have HC := Lib.hid (show Calls Try.prog 8 #[.pointer (some ⟨q, 0, none⟩), .int .i64 2, .int .i64 50] w2 fun e w' => e = .returned (.tuple #[.bool false, .int .i64 0]) ∧ QStep w w' q [] 2 100 [(1, 60)] [(2, 50)] from mine_put 2 50 h2)
  clear h2
  go_wp2_with fail
  refine HC.out.mono ?_
  rintro e w3 ⟨rfl, h3⟩
  have HC := Lib.hid (show Calls Try.prog 8 #[.pointer (some ⟨q, 0, none⟩), .int .i64 2, .int .i64 1] w3 fun e w' => e = .returned (.tuple #[.bool false, .int .i64 7]) ∧ QStep w w' q [] 2 100 [(1, 60)] [(2, 50)] from mine_put 2 1 h3)
  clear h3
  go_wp2_with fail
  refine HC.out.mono ?_
  rintro e w4 ⟨rfl, h4⟩
  have HC := Lib.hid (show Calls Try.prog 9 #[.pointer (some ⟨q, 0, none⟩), .int .i64 5, .int .i64 10] w4 fun e w' => ∃ v u, e = .returned (.tuple #[v, u]) ∧ Fresh w4 w' v [(1, 60)] ∧ FreshI w4 w' u [2] ∧ QStep w w' q [] 2 100 [(2, 50)] [] from mine_take 5 10 h4)
  clear h4
  go_wp2_with fail
  refine HC.out.mono ?_
  rintro e w5 ⟨v, u, rfl, hv, hu, h5⟩
  have hv' : Sl w5 38 2 v 1 [.int .i64 1, .int .i64 60] := hv.1
  have hu' : Sl w5 2 1 u 1 [.int .i64 2] := hu.1
  have HC := Lib.hid (show Calls Try.prog 10 #[.pointer (some ⟨q, 0, none⟩)] w5 fun e w' => e = .returned (.agg #[.int .i64 1, .int .i64 50, .int .i64 0]) ∧ QStep w w' q [] 2 100 [(2, 50)] [] ∧ Only [] w5 w' from mine_look h5)
  obtain ⟨gv, ov, cv, hv1, hv2, _, _, hv3, _⟩ := hv'.form (by omega)
  obtain ⟨gu, ou, cu, hu1, hu2, _, _, hu3, _⟩ := hu'.form (by omega)
  have c1 : w5.cell? ⟨gv, ov, none⟩ = some (.int .i64 1) := hv3 0 (by omega)
  have c2 : w5.cell? ⟨gu, ou, none⟩ = some (.int .i64 2) := hu3 0 (by omega)
  subst hv1
  subst hu1
  clear hv hu h5 hv' hu' hv3 hu3
  go_wp2_with fail
  refine HC.out.mono ?_
  rintro e w6 ⟨rfl, h6, _⟩
  have HO := Lib.hid h6.out
  clear h6
  go_wp2
  go_ret
  exact ⟨rfl, by (repeat (first | with_reducible exact Only.refl _ _ | with_reducible exact HO.out | with_reducible refine Only.drew ?_ | with_reducible refine Only.drewN ?_ _ | with_reducible refine Only.alloc ?_ _ | ((with_reducible refine Only.setCell ?_ ?_ _); rotate_left; (focus (first | (left; simp; done) | (right; simp; done) | (right; simp; omega) | (right; omega))))))⟩

set_option maxRecDepth 100000 in
set_option maxHeartbeats 1600000 in
theorem none_walk (id n m : Int) (w : World) : Calls Try.prog 5 #[.int .i64 id, .int .i64 n, .int .i64 m] w fun e w' => e = .returned (.bool true) ∧ Only [] w w' := by
  have HC := Lib.hid (begun_ok w)
  go_enter Try.func5, Try.ntmps5
  go_wp2_with fail
  refine HC.out.mono ?_
  rintro e w1 ⟨rfl, h1⟩
  have HC := Lib.hid (put_nil id n w1)
  have H1 := Lib.hid h1
  clear h1
  go_wp2_with fail
  refine HC.out.mono ?_
  rintro e w2 ⟨rfl, h2⟩
  have HC := Lib.hid (take_nil n m w2)
  have H2 := Lib.hid (H1.out.trans h2)
  clear h2
  go_wp2_with fail
  refine HC.out.mono ?_
  rintro e w3 ⟨rfl, h3⟩
  have HC := Lib.hid (leave_nil id w3)
  have H3 := Lib.hid (H2.out.trans h3)
  clear h3
  go_wp2_with fail
  refine HC.out.mono ?_
  rintro e w4 ⟨rfl, h4⟩
  have HC := Lib.hid (clear_nil w4)
  have H4 := Lib.hid (H3.out.trans h4)
  clear h4
  go_wp2_with fail
  refine HC.out.mono ?_
  rintro e w5 ⟨rfl, h5⟩
  have HC := Lib.hid (show Calls Try.prog 10 #[.pointer none] w5 fun e w' => e = .returned (.agg #[.int .i64 0, .int .i64 0, .int .i64 0]) ∧ Only [] w5 w' from look_nil w5)
  have H5 := Lib.hid (H4.out.trans h5)
  clear h5
  go_wp2_with fail
  refine HC.out.mono ?_
  rintro e w6 ⟨rfl, h6⟩
  have HC := Lib.hid (held_nil w6)
  have H6 := Lib.hid (H5.out.trans h6)
  clear h6
  go_wp2_with fail
  refine HC.out.mono ?_
  rintro e w7 ⟨rfl, h7⟩
  have HC := Lib.hid (line_nil w7)
  have H7 := Lib.hid (H6.out.trans h7)
  clear h7
  go_wp2_with fail
  refine HC.out.mono ?_
  rintro e w8 ⟨rfl, h8⟩
  have H8 := Lib.hid (H7.out.trans h8)
  clear h8
  go_wp2
  go_ret
  exact ⟨rfl, by (repeat (first | with_reducible exact Only.refl _ _ | with_reducible exact H8.out | with_reducible refine Only.drew ?_ | with_reducible refine Only.drewN ?_ _ | with_reducible refine Only.alloc ?_ _ | ((with_reducible refine Only.setCell ?_ ?_ _); rotate_left; (focus (first | (left; simp; done) | (right; simp; done) | (right; simp; omega) | (right; omega))))))⟩
end Go.Proofs.Ytlkfkdcdokinpaa
