/-
  The document's own Kind.
-/
import Derived.Test.YtbcckaaleoofhaaOf
import Derived.Test.YtbcckaaleoofhaaOe
import Derived.Test.YtbcckaaleoofhaaOc
namespace Go.Proofs.Ytbcckaaleoofhaa
open Go.RowKit Go.Fl

set_option maxHeartbeats 1600000 in
theorem rkind_gen (l : List UInt8) (w : World) : Calls Try.prog 11 #[.string ⟨l.toArray⟩] w fun e w' => e = .returned (.int .i64 (kindM l)) ∧ Only [] w w' := by
  have HN := Lib.hid (rnumber_gen l w)
  have HM : ∀ w1, Hid (Calls Try.prog 9 #[.string ⟨l.toArray⟩] w1 fun e w' => e = .returned (.bool (mayB l)) ∧ w' = w1) := fun w1 => Lib.hid (rmay_ok l w1)
  cases hm : mayB l with
  | false =>
    simp only [hm] at HM
    have HR := Lib.hid (show kindM l = 0 by unfold kindM; rw [if_pos hm])
    clear hm
    go_enter Try.func11, Try.ntmps11
    go_wp2_with fail
    refine HN.out.mono ?_
    clear HN
    rintro e w1 ⟨rfl, ho1⟩
    have HO1 := Lib.hid ho1
    clear ho1
    go_wp2_with fail
    refine (HM _).out.mono ?_
    clear HM
    rintro e w1 ⟨rfl, rfl⟩
    go_wp2
    go_ret
    exact ⟨by rw [HR.out]; rfl, HO1.out⟩
  | true =>
    simp only [hm] at HM
    have hmm : ¬ mayB l = false := by rw [hm]; simp
    cases hn : (numM l).2 with
    | true =>
      rw [hn] at HN
      have HR := Lib.hid (show kindM l = 1 by unfold kindM; rw [if_neg hmm, if_pos hn])
      clear hm hn hmm
      go_enter Try.func11, Try.ntmps11
      go_wp2_with fail
      refine HN.out.mono ?_
      clear HN
      rintro e w1 ⟨rfl, ho1⟩
      have HO1 := Lib.hid ho1
      clear ho1
      go_wp2_with fail
      refine (HM _).out.mono ?_
      clear HM
      rintro e w1 ⟨rfl, rfl⟩
      go_wp2
      go_ret
      exact ⟨by rw [HR.out]; rfl, HO1.out⟩
    | false =>
      rw [hn] at HN
      have hnn : ¬ (numM l).2 = true := by rw [hn]; simp
      by_cases h1 : l = catL
      · have HR := Lib.hid (show kindM l = 2 by unfold kindM; rw [if_neg hmm, if_neg hnn, if_pos h1])
        have e1 : (l == [99, 97, 116, 97, 108, 111, 103]) = true := by rw [h1]; rfl
        clear hm hn hmm hnn h1
        go_enter Try.func11, Try.ntmps11
        go_wp2_with fail
        refine HN.out.mono ?_
        clear HN
        rintro e w1 ⟨rfl, ho1⟩
        have HO1 := Lib.hid ho1
        clear ho1
        go_wp2_with fail
        refine (HM _).out.mono ?_
        clear HM
        rintro e w1 ⟨rfl, rfl⟩
        go_wp2
        go_ret
        exact ⟨by rw [HR.out]; rfl, HO1.out⟩
      · have e1 : (l == [99, 97, 116, 97, 108, 111, 103]) = false := by simpa [catL] using h1
        by_cases h2 : l = nextL
        · have HR := Lib.hid (show kindM l = 3 by unfold kindM; rw [if_neg hmm, if_neg hnn, if_neg h1, if_pos (.inl h2)])
          have e2 : (l == [99, 97, 116, 97, 108, 111, 103, 45, 110, 101, 120, 116]) = true := by rw [h2]; rfl
          clear hm hn hmm hnn h1 h2
          go_enter Try.func11, Try.ntmps11
          go_wp2_with fail
          refine HN.out.mono ?_
          clear HN
          rintro e w1 ⟨rfl, ho1⟩
          have HO1 := Lib.hid ho1
          clear ho1
          go_wp2_with fail
          refine (HM _).out.mono ?_
          clear HM
          rintro e w1 ⟨rfl, rfl⟩
          go_wp2
          go_ret
          exact ⟨by rw [HR.out]; rfl, HO1.out⟩
        · have e2 : (l == [99, 97, 116, 97, 108, 111, 103, 45, 110, 101, 120, 116]) = false := by simpa [nextL] using h2
          by_cases h3 : l = anewL
          · have HR := Lib.hid (show kindM l = 3 by unfold kindM; rw [if_neg hmm, if_neg hnn, if_neg h1, if_pos (.inr h3)])
            have e3 : (l == [115, 101, 103, 109, 101, 110, 116, 45, 110, 101, 120, 116]) = true := by rw [h3]; rfl
            clear hm hn hmm hnn h1 h2 h3
            go_enter Try.func11, Try.ntmps11
            go_wp2_with fail
            refine HN.out.mono ?_
            clear HN
            rintro e w1 ⟨rfl, ho1⟩
            have HO1 := Lib.hid ho1
            clear ho1
            go_wp2_with fail
            refine (HM _).out.mono ?_
            clear HM
            rintro e w1 ⟨rfl, rfl⟩
            go_wp2
            go_ret
            exact ⟨by rw [HR.out]; rfl, HO1.out⟩
          · have e3 : (l == [115, 101, 103, 109, 101, 110, 116, 45, 110, 101, 120, 116]) = false := by simpa [anewL] using h3
            have HR := Lib.hid (show kindM l = 4 by unfold kindM; rw [if_neg hmm, if_neg hnn, if_neg h1, if_neg (fun hh => hh.elim h2 h3)])
            clear hm hn hmm hnn h1 h2 h3
            go_enter Try.func11, Try.ntmps11
            go_wp2_with fail
            refine HN.out.mono ?_
            clear HN
            rintro e w1 ⟨rfl, ho1⟩
            have HO1 := Lib.hid ho1
            clear ho1
            go_wp2_with fail
            refine (HM _).out.mono ?_
            clear HM
            rintro e w1 ⟨rfl, rfl⟩
            go_wp2
            go_ret
            exact ⟨by rw [HR.out]; rfl, HO1.out⟩
end Go.Proofs.Ytbcckaaleoofhaa
