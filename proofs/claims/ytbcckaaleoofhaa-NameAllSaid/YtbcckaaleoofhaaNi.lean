/-
  slices.Sort of three texts: the insertion sort, Sort.
-/
import Derived.Test.YtbcckaaleoofhaaNh
import Derived.Test.YtbcckaaleoofhaaLex3
import Derived.LoopN
namespace Go.Proofs.Ytbcckaaleoofhaa
open Go.RowKit Go.Fl

/-- The three texts ahead of the sort's round i. -/
def stS (i : Nat) : List Value := if i ≤ 1 then [tB, tA, tB] else [tA, tB, tB]

set_option maxRecDepth 100000 in
set_option maxHeartbeats 1600000 in
theorem insert_ok {g o c : Nat} (w : World) (h : Sl w 9 1 (.slice (some ⟨g, o, none⟩) 3 c) 3 [tB, tA, tB]) :
    Calls Try.prog 26 #[.slice (some ⟨g, o, none⟩) 3 c, .int .i64 0, .int .i64 3] w fun e w' => e = .returned (.tuple #[]) ∧ Sl w' 9 1 (.slice (some ⟨g, o, none⟩) 3 c) 3 [tA, tB, tB] ∧ Only [g] w w' := by
  have H := Lib.hid h
  clear h
  go_enter Try.func26, Try.ntmps26
  go_wp2
  go_loopw [6] (fun i wr => ∃ k : Nat, ((k = 1 ∧ i = .int .i64 1) ∨ (k = 2 ∧ i = .int .i64 2) ∨ (k = 3 ∧ i = .int .i64 3)) ∧ Hid (Sl wr 9 1 (.slice (some ⟨g, o, none⟩) 3 c) 3 (stS k)) ∧ Hid (Only [g] w wr)) (fun i _ => 3 - (intOf i).toNat)
  case atStart => exact ⟨1, .inl ⟨rfl, rfl⟩, H, Lib.hid (Only.refl _ _)⟩
  case round =>
    obtain ⟨k, hk, HS, HO⟩ := hrel
    clear H
    rcases hk with ⟨rfl, rfl⟩ | ⟨rfl, rfl⟩ | ⟨rfl, rfl⟩
    · go_wp2
      go_loopw [7] (fun j wr => ∃ m : Nat, ((m = 1 ∧ j = .int .i64 1) ∨ (m = 0 ∧ j = .int .i64 0)) ∧ Hid (Sl wr 9 1 (.slice (some ⟨g, o, none⟩) 3 c) 3 (stS (2 - m))) ∧ Hid (Only [g] w wr)) (fun j _ => (intOf j).toNat)
      case atStart => exact ⟨1, .inl ⟨rfl, rfl⟩, HS, HO⟩
      case round =>
        obtain ⟨m, hm, HS2, HO2⟩ := hrel
        clear HS HO
        rcases hm with ⟨rfl, rfl⟩ | ⟨rfl, rfl⟩
        · obtain ⟨_, _, _, hv, hg, _, _, hcc, hf⟩ := HS2.out.form (by omega)
          injection hv with e1 _ e3
          simp only [Option.some.injEq, Addr.mk.injEq, and_true] at e1
          obtain ⟨rfl, rfl⟩ := e1
          subst e3
          have c0 : wr.cell? ⟨g, o, none⟩ = some tB := hcc 0 (by omega)
          have c1 : wr.cell? ⟨g, o + 1, none⟩ = some tA := hcc 1 (by omega)
          have HL : ∀ n, Hid (Calls Try.prog 32 #[tA, tB] (wr.drewN n) fun e w' => e = .returned (.bool true) ∧ w' = wr.drewN n) := fun n => Lib.hid (less_AB _)
          clear hcc
          go_wp2
          go_quiet ((go_at_call 32; exact Calls.quiet_of_same (HL _).out))
          clear HL
          go_wp2
          refine Lex.wp_region_text (by kernel_rfl) (by kernel_rfl) ?_
          go_wp2
          refine Lex.sq_done (by rfl) ?_
          go_wp2
          go_roundw
          case measure => simp [intOf]
          case rel => exact ⟨0, .inr ⟨rfl, rfl⟩, Lib.hid (Sl_set1 (i := 0) (Sl_set1 (i := 1) (HS2.out.drewN nq).drew tB) tA), Lib.hid ((((HO2.out.drewN nq).drew).setCell (p := ⟨g, o + 1, none⟩) (.inl (by simp)) _).setCell (p := ⟨g, o, none⟩) (.inl (by simp)) _)⟩
        · go_wp2
          go_quiet (fail)
          go_wp2
          go_roundw
          case measure => simp [intOf]
          case rel => exact ⟨2, .inr (.inl ⟨rfl, rfl⟩), Lib.hid (HS2.out.drewN _), Lib.hid (HO2.out.drewN _)⟩
    · go_wp2
      go_loopw [7] (fun j wr => j = .int .i64 2 ∧ Hid (Sl wr 9 1 (.slice (some ⟨g, o, none⟩) 3 c) 3 (stS 2)) ∧ Hid (Only [g] w wr)) (fun j _ => (intOf j).toNat)
      case atStart => exact ⟨rfl, HS, HO⟩
      case round =>
        obtain ⟨rfl, HS2, HO2⟩ := hrel
        clear HS HO
        obtain ⟨_, _, _, hv, hg, _, _, hcc, hf⟩ := HS2.out.form (by omega)
        injection hv with e1 _ e3
        simp only [Option.some.injEq, Addr.mk.injEq, and_true] at e1
        obtain ⟨rfl, rfl⟩ := e1
        subst e3
        have c0 : wr.cell? ⟨g, o + 1, none⟩ = some tB := hcc 1 (by omega)
        have c1 : wr.cell? ⟨g, o + 2, none⟩ = some tB := hcc 2 (by omega)
        have HL : ∀ n, Hid (Calls Try.prog 32 #[tB, tB] (wr.drewN n) fun e w' => e = .returned (.bool false) ∧ w' = wr.drewN n) := fun n => Lib.hid (less_BB _)
        clear hcc
        go_wp2
        go_quiet ((go_at_call 32; exact Calls.quiet_of_same (HL _).out))
        clear HL
        go_wp2
        go_roundw
        case measure => simp [intOf]
        case rel => exact ⟨3, .inr (.inr ⟨rfl, rfl⟩), Lib.hid (HS2.out.drewN _), Lib.hid (HO2.out.drewN _)⟩
    · go_wp2
      go_end0
      exact ⟨rfl, HS.out, HO.out⟩
set_option maxRecDepth 100000 in
theorem pdq_ok {g o c : Nat} (x : Int) (w : World) (h : Sl w 9 1 (.slice (some ⟨g, o, none⟩) 3 c) 3 [tB, tA, tB]) :
    Calls Try.prog 24 #[.slice (some ⟨g, o, none⟩) 3 c, .int .i64 0, .int .i64 3, .int .i64 x] w fun e w' => e = .returned (.tuple #[]) ∧ Sl w' 9 1 (.slice (some ⟨g, o, none⟩) 3 c) 3 [tA, tB, tB] ∧ Only [g] w w' := by
  have HC := Lib.hid (insert_ok w h)
  clear h
  go_enter Try.func24, Try.ntmps24
  go_wp2
  refine wp_loop_rounds 1 ?_
  rw [rounds_succ]
  go_wp2_with fail
  refine HC.out.mono ?_
  clear HC
  rintro e w1 ⟨rfl, hS, hO⟩
  have HS := Lib.hid hS
  have HO := Lib.hid hO
  clear hS hO
  go_wp2
  exact bodyPost_ret (results_none rfl _ _ _) rfl ⟨rfl, HS.out, HO.out⟩
theorem sort_ok {g o c : Nat} (w : World) (h : Sl w 9 1 (.slice (some ⟨g, o, none⟩) 3 c) 3 [tB, tA, tB]) :
    Calls Try.prog 22 #[.slice (some ⟨g, o, none⟩) 3 c] w fun e w' => e = .returned (.tuple #[]) ∧ Sl w' 9 1 (.slice (some ⟨g, o, none⟩) 3 c) 3 [tA, tB, tB] ∧ Only [g] w w' := by
  have HL := Lib.hid (len_ok w)
  have HC : ∀ x, Hid _ := fun x => Lib.hid (pdq_ok x w h)
  clear h
  go_enter Try.func22, Try.ntmps22
  go_wp2_with fail
  refine HL.out.mono ?_
  clear HL
  rintro e w1 ⟨⟨x, rfl⟩, rfl⟩
  go_wp2_with fail
  refine (HC x).out.mono ?_
  clear HC
  rintro e w2 ⟨rfl, hS, hO⟩
  have HS := Lib.hid hS
  have HO := Lib.hid hO
  clear hS hO
  go_wp2
  go_end0
  exact ⟨rfl, HS.out, HO.out⟩
end Go.Proofs.Ytbcckaaleoofhaa
