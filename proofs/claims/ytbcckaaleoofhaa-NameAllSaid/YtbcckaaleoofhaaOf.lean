/-
  Kind of any text: the package's.
-/
import Derived.Test.YtbcckaaleoofhaaOb
namespace Go.Proofs.Ytbcckaaleoofhaa
open Go.RowKit Go.Fl

def kindM (l : List UInt8) : Int :=
  if mayB l = false then 0 else if (numM l).2 = true then 1 else if l = catL then 2 else if l = nextL ∨ l = anewL then 3 else 4

set_option maxHeartbeats 1600000 in
theorem kind_gen (l : List UInt8) (w : World) : Calls Try.prog 10 #[.string ⟨l.toArray⟩] w fun e w' => e = .returned (.int .i64 (kindM l)) ∧ w' = w := by
  have HN := Lib.hid (number_gen l w)
  have HM := Lib.hid (may_ok l w)
  cases hm : mayB l with
  | false =>
    rw [hm] at HM
    have HR := Lib.hid (show kindM l = 0 by unfold kindM; rw [if_pos hm])
    clear hm
    go_enter Try.func10, Try.ntmps10
    go_wp2_with fail
    refine HN.out.mono ?_
    clear HN
    rintro e w1 ⟨rfl, rfl⟩
    go_wp2_with fail
    refine HM.out.mono ?_
    clear HM
    rintro e w1 ⟨rfl, rfl⟩
    go_wp2
    go_ret
    exact ⟨by rw [HR.out]; rfl, rfl⟩
  | true =>
    rw [hm] at HM
    have hmm : ¬ mayB l = false := by rw [hm]; simp
    cases hn : (numM l).2 with
    | true =>
      rw [hn] at HN
      have HR := Lib.hid (show kindM l = 1 by unfold kindM; rw [if_neg hmm, if_pos hn])
      clear hm hn hmm
      go_enter Try.func10, Try.ntmps10
      go_wp2_with fail
      refine HN.out.mono ?_
      clear HN
      rintro e w1 ⟨rfl, rfl⟩
      go_wp2_with fail
      refine HM.out.mono ?_
      clear HM
      rintro e w1 ⟨rfl, rfl⟩
      go_wp2
      go_ret
      exact ⟨by rw [HR.out]; rfl, rfl⟩
    | false =>
      rw [hn] at HN
      have hnn : ¬ (numM l).2 = true := by rw [hn]; simp
      by_cases h1 : l = catL
      · have HR := Lib.hid (show kindM l = 2 by unfold kindM; rw [if_neg hmm, if_neg hnn, if_pos h1])
        have e1 : (l == [99, 97, 116, 97, 108, 111, 103]) = true := by rw [h1]; rfl
        clear hm hn hmm hnn h1
        go_enter Try.func10, Try.ntmps10
        go_wp2_with fail
        refine HN.out.mono ?_
        clear HN
        rintro e w1 ⟨rfl, rfl⟩
        go_wp2_with fail
        refine HM.out.mono ?_
        clear HM
        rintro e w1 ⟨rfl, rfl⟩
        go_wp2
        go_ret
        exact ⟨by rw [HR.out]; rfl, rfl⟩
      · have e1 : (l == [99, 97, 116, 97, 108, 111, 103]) = false := by simpa [catL] using h1
        by_cases h2 : l = nextL
        · have HR := Lib.hid (show kindM l = 3 by unfold kindM; rw [if_neg hmm, if_neg hnn, if_neg h1, if_pos (.inl h2)])
          have e2 : (l == [99, 97, 116, 97, 108, 111, 103, 45, 110, 101, 120, 116]) = true := by rw [h2]; rfl
          clear hm hn hmm hnn h1 h2
          go_enter Try.func10, Try.ntmps10
          go_wp2_with fail
          refine HN.out.mono ?_
          clear HN
          rintro e w1 ⟨rfl, rfl⟩
          go_wp2_with fail
          refine HM.out.mono ?_
          clear HM
          rintro e w1 ⟨rfl, rfl⟩
          go_wp2
          go_ret
          exact ⟨by rw [HR.out]; rfl, rfl⟩
        · have e2 : (l == [99, 97, 116, 97, 108, 111, 103, 45, 110, 101, 120, 116]) = false := by simpa [nextL] using h2
          by_cases h3 : l = anewL
          · have HR := Lib.hid (show kindM l = 3 by unfold kindM; rw [if_neg hmm, if_neg hnn, if_neg h1, if_pos (.inr h3)])
            have e3 : (l == [115, 101, 103, 109, 101, 110, 116, 45, 110, 101, 120, 116]) = true := by rw [h3]; rfl
            clear hm hn hmm hnn h1 h2 h3
            go_enter Try.func10, Try.ntmps10
            go_wp2_with fail
            refine HN.out.mono ?_
            clear HN
            rintro e w1 ⟨rfl, rfl⟩
            go_wp2_with fail
            refine HM.out.mono ?_
            clear HM
            rintro e w1 ⟨rfl, rfl⟩
            go_wp2
            go_ret
            exact ⟨by rw [HR.out]; rfl, rfl⟩
          · have e3 : (l == [115, 101, 103, 109, 101, 110, 116, 45, 110, 101, 120, 116]) = false := by simpa [anewL] using h3
            have HR := Lib.hid (show kindM l = 4 by unfold kindM; rw [if_neg hmm, if_neg hnn, if_neg h1, if_neg (fun hh => hh.elim h2 h3)])
            clear hm hn hmm hnn h1 h2 h3
            go_enter Try.func10, Try.ntmps10
            go_wp2_with fail
            refine HN.out.mono ?_
            clear HN
            rintro e w1 ⟨rfl, rfl⟩
            go_wp2_with fail
            refine HM.out.mono ?_
            clear HM
            rintro e w1 ⟨rfl, rfl⟩
            go_wp2
            go_ret
            exact ⟨by rw [HR.out]; rfl, rfl⟩
end Go.Proofs.Ytbcckaaleoofhaa
