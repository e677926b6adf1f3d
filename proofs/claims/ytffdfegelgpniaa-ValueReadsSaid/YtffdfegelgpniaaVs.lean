/-
  Read: what goes up is caught.
-/
import Derived.Test.YtffdfegelgpniaaVr
import Derived.Tactics2
import Derived.Defers
import Derived.Recover
import Derived.Laws.Pointers
set_option linter.unusedSimpArgs false
set_option linter.unusedVariables false
namespace Go.Proofs.Ytffdfegelgpniaa
open Go.RowKit Go.Fl

theorem fr19 (a b c x : Value) : (#[a, b, c] ++ ((Array.replicate 19 undef).setIfInBounds 3 x).setIfInBounds 0 x : Array Value) = #[a, b, c, x, undef, undef, x, undef, undef, undef, undef, undef, undef, undef, undef, undef, undef, undef, undef, undef, undef, undef] := by
  apply Array.ext'
  simp [List.replicate]
theorem assert61 (v : Value) (w : World) : (Instr.typeAssert (.iface 61 v) 20 61 true).run Try.prog w = .ok (.tuple #[v, .bool true]) w := by
  simp [Instr.typeAssert, run_underlying Try.underlying61]
set_option maxRecDepth 100000 in
theorem catch_idle (a b c : Nat) (w : World) :
    CallsD Try.prog 35 #[.pointer (some ⟨a, 0, none⟩), .pointer (some ⟨b, 0, none⟩), .pointer (some ⟨c, 0, none⟩)] .returning w fun e u' w' => e = .returned (.tuple #[]) ∧ u' = .returning ∧ w' = w := by
  refine callsD_of_wpS Try.func35 rfl fun c₀ cs hu => ?_
  apply wpS_seq
  apply wpS_region
  simp [wpOpsS, go_sem, recoverD, hu, Try.ntmps35, Exit.thenS]
  rw [fr19]
  refine wpS_of_wp ?_
  go_wp2
  cases c₀
  simp_all [bodyPostS, results, Try.results35]
/-- Three results are laid, in whatever order. -/
structure R3 (a b c : Nat) (Z : Array Value) (x y : Value) (w w' : World) : Prop where
  only : Only [a, b, c] w w'
  ra : ∀ cs, Blk w a 33 cs → cs.size = 5 → ∃ cs', Blk w' a 33 cs' ∧ cs'.size = 5 ∧ (cs = Z → cs' = Z)
  rb : ∀ u, Blk w b 3 #[u] → ∃ u', Blk w' b 3 #[u'] ∧ (u = x → u' = x)
  rc : ∀ u, Blk w c 34 #[u] → ∃ u', Blk w' c 34 #[u'] ∧ (u = y → u' = y)
section
variable {a b c : Nat} {Z : Array Value} {x y : Value} {w w' w2 : World}
theorem R3.refl (w : World) : R3 a b c Z x y w w := ⟨Only.refl _ _, fun cs h k => ⟨cs, h, k, fun e => e⟩, fun u h => ⟨u, h, fun e => e⟩, fun u h => ⟨u, h, fun e => e⟩⟩
theorem R3.trans (h : R3 a b c Z x y w w') (k : R3 a b c Z x y w' w2) : R3 a b c Z x y w w2 :=
  ⟨h.only.trans k.only, fun cs h1 h2 => by
    obtain ⟨c1, h3, h4, h5⟩ := h.ra cs h1 h2
    obtain ⟨c2, h6, h7, h8⟩ := k.ra c1 h3 h4
    exact ⟨c2, h6, h7, fun e => h8 (h5 e)⟩, fun u h1 => by
    obtain ⟨c1, h3, h5⟩ := h.rb u h1
    obtain ⟨c2, h6, h8⟩ := k.rb c1 h3
    exact ⟨c2, h6, fun e => h8 (h5 e)⟩, fun u h1 => by
    obtain ⟨c1, h3, h5⟩ := h.rc u h1
    obtain ⟨c2, h6, h8⟩ := k.rc c1 h3
    exact ⟨c2, h6, fun e => h8 (h5 e)⟩⟩
theorem R3.setA (hab : a ≠ b) (hac : a ≠ c) (ho : Only [a] w w') (hz : Blk w' a 33 Z) (hs : Z.size = 5) : R3 a b c Z x y w w' :=
  ⟨ho.mono (by simp), fun cs _ _ => ⟨Z, hz, hs, fun _ => rfl⟩, fun u h => ⟨u, h.only ho (by simp; omega), fun e => e⟩, fun u h => ⟨u, h.only ho (by simp; omega), fun e => e⟩⟩
theorem R3.setB (hab : a ≠ b) (hbc : b ≠ c) (ho : Only [b] w w') (hz : Blk w' b 3 #[x]) : R3 a b c Z x y w w' :=
  ⟨ho.mono (by simp), fun cs h k => ⟨cs, h.only ho (by simp; omega), k, fun e => e⟩, fun u _ => ⟨x, hz, fun _ => rfl⟩, fun u h => ⟨u, h.only ho (by simp; omega), fun e => e⟩⟩
theorem R3.setC (hac : a ≠ c) (hbc : b ≠ c) (ho : Only [c] w w') (hz : Blk w' c 34 #[y]) : R3 a b c Z x y w w' :=
  ⟨ho.mono (by simp), fun cs h k => ⟨cs, h.only ho (by simp; omega), k, fun e => e⟩, fun u h => ⟨u, h.only ho (by simp; omega), fun e => e⟩, fun u _ => ⟨y, hz, fun _ => rfl⟩⟩
end
def CPhi (a b c g : Nat) (p e : Int) : Nat → Value → World → Prop
  | 0, v, _ => v = .agg zeroV.toArray
  | 1, v, _ => v = .pointer (some ⟨g, 0, none⟩)
  | 2, v, _ => v = iv p
  | 3, v, _ => v = .pointer (some ⟨g, 1, none⟩)
  | 4, v, _ => v = iv e
  | 5, _, w' => Blk w' a 33 zeroV.toArray
  | 6, _, w' => Blk w' b 3 #[iv p]
  | 7, _, w' => Blk w' c 34 #[iv e]
  | _, _, _ => True
theorem C_st {a b c g : Nat} {p e : Int} (i : Nat) (v : Value) (w w' : World) (h : CPhi a b c g p e i v w) (k : R3 a b c zeroV.toArray (iv p) (iv e) w w') : CPhi a b c g p e i v w' := by
  match i, h with
  | 0, h => exact h
  | 1, h => exact h
  | 2, h => exact h
  | 3, h => exact h
  | 4, h => exact h
  | 5, h =>
    obtain ⟨cs, h1, _, h2⟩ := k.ra _ h rfl
    rw [h2 rfl] at h1
    exact h1
  | 6, h =>
    obtain ⟨u, h1, h2⟩ := k.rb _ h
    rw [h2 rfl] at h1
    exact h1
  | 7, h =>
    obtain ⟨u, h1, h2⟩ := k.rc _ h
    rw [h2 rfl] at h1
    exact h1
  | n + 8, _ => trivial
set_option maxRecDepth 100000 in
set_option maxHeartbeats 1600000 in
theorem catch_wrong {w : World} {a b c : Nat} (p e : Int) {cs : Array Value} {x y : Value} (ha : Blk w a 33 cs) (hcs : cs.size = 5) (hb : Blk w b 3 #[x]) (hc : Blk w c 34 #[y]) (hab : a ≠ b) (hac : a ≠ c) (hbc : b ≠ c) :
    CallsD Try.prog 35 #[.pointer (some ⟨a, 0, none⟩), .pointer (some ⟨b, 0, none⟩), .pointer (some ⟨c, 0, none⟩)] (.panicking [{ v := wrongV p e, recovered := false }]) w fun z u' w' => z = .returned (.tuple #[]) ∧ u' = .panicking [{ v := wrongV p e, recovered := true }] ∧
      Blk w' a 33 zeroV.toArray ∧ Blk w' b 3 #[iv p] ∧ Blk w' c 34 #[iv e] ∧ Only [a, b, c] w w' := by
  refine callsD_of_wpS Try.func35 rfl fun c₀ cs' hu => ?_
  apply wpS_seq
  apply wpS_region
  simp [wpOpsS, go_sem, recoverD, hu, Try.ntmps35, Exit.thenS, wrongV]
  rw [fr19]
  refine wpS_of_wp ?_
  have hta := assert61
  have HG := Lib.hid (show Blk (w.alloc (.cells #[.int .i64 p, .int .i64 e] 61)) w.heap.size 61 #[iv p, iv e] from Blk.new _ _ _)
  have HA := Lib.hid (show Blk (w.alloc (.cells #[.int .i64 p, .int .i64 e] 61)) a 33 cs from ha.alloc _)
  have HB := Lib.hid (show Blk (w.alloc (.cells #[.int .i64 p, .int .i64 e] 61)) b 3 #[x] from hb.alloc _)
  have HC := Lib.hid (show Blk (w.alloc (.cells #[.int .i64 p, .int .i64 e] 61)) c 34 #[y] from hc.alloc _)
  have HO := Lib.hid (show Only [a, b, c] w (w.alloc (.cells #[.int .i64 p, .int .i64 e] 61)) from (Only.refl _ w).alloc _)
  have hwa := ha.lt
  have hwb := hb.lt
  have hwc := hc.lt
  clear ha hb hc
  go_wp2
  generalize w.alloc (.cells #[.int .i64 p, .int .i64 e] 61) = w0 at *
  refine Lex.wp_region_each (by kernel_rfl) [[], [], [1], [], [3], [0], [2], [4]] (by kernel_rfl) (by rfl) (R3 a b c zeroV.toArray (iv p) (iv e)) R3.refl (fun _ _ _ => R3.trans) (CPhi a b c w.heap.size p e) (fun i v w w' h k => C_st i v w w' h k) ?_ ?_
  · intro i o ho w1 hR
    have HR := Lib.hid hR
    clear hR
    rcases i with _ | _ | _ | _ | _ | _ | _ | _ | i
    · injection ho with ho
      subst ho
      show wpList _ _ _ _ _ _
      go_wp2
      exact ⟨rfl, R3.refl _, rfl⟩
    · injection ho with ho
      subst ho
      show wpList _ _ _ _ _ _
      go_wp2
      exact ⟨rfl, R3.refl _, rfl⟩
    · injection ho with ho
      subst ho
      have x0 := (HG.out.drew.only HR.out.only (by simp; omega)).cell 0
      simp at x0
      intro v hv
      obtain rfl : v = .pointer (some ⟨w.heap.size, 0, none⟩) := hv
      simp only [Lex.dstOf, List.getElem?_cons_zero, List.getElem?_cons_succ, Option.bind_some]
      show wpList _ _ _ _ _ _
      go_wp2
      exact ⟨rfl, R3.refl _, rfl⟩
    · injection ho with ho
      subst ho
      show wpList _ _ _ _ _ _
      go_wp2
      exact ⟨rfl, R3.refl _, rfl⟩
    · injection ho with ho
      subst ho
      have x0 := (HG.out.drew.only HR.out.only (by simp; omega)).cell 1
      simp at x0
      intro v hv
      obtain rfl : v = .pointer (some ⟨w.heap.size, 1, none⟩) := hv
      simp only [Lex.dstOf, List.getElem?_cons_zero, List.getElem?_cons_succ, Option.bind_some]
      show wpList _ _ _ _ _ _
      go_wp2
      exact ⟨rfl, R3.refl _, rfl⟩
    · injection ho with ho
      subst ho
      obtain ⟨ca, hba, hsz, _⟩ := HR.out.ra cs HA.out.drew hcs
      intro v hv
      obtain rfl : v = .agg zeroV.toArray := hv
      simp only [Lex.dstOf, List.getElem?_cons_zero, List.getElem?_cons_succ, Option.bind_some]
      show wpList _ _ _ _ _ _
      go_wp2_with (refine wpList_store_blk rfl 33 (.tmp 0) (.tmp 17) rfl zeroV rfl rfl hba (by kernel_rfl) (by simp [hsz]) (by simp [Value.oneCell']) ?_)
      intro w2 hA2 hO2
      rw [List.drop_eq_nil_of_le (by simp [hsz])] at hA2
      have hA3 : Blk w2 a 33 zeroV.toArray := hA2
      have HA3 := Lib.hid hA3
      have HO2 := Lib.hid hO2
      clear hA2 hA3 hO2 hba
      go_wp2
      exact ⟨HA3.out, R3.setA hab hac HO2.out HA3.out rfl, rfl⟩
    · injection ho with ho
      subst ho
      obtain ⟨u, hbb, _⟩ := HR.out.rb x HB.out.drew
      have x0 := hbb.cell 0
      have f0 := hbb.frozen 0
      have l0 := hbb.lt
      have HBB := Lib.hid (show Blk (w1.setCell ⟨b, 0, none⟩ (iv p)) b 3 #[iv p] from hbb.set_ 0 _)
      simp at x0
      intro v hv
      obtain rfl : v = iv p := hv
      simp only [Lex.dstOf, List.getElem?_cons_zero, List.getElem?_cons_succ, Option.bind_some]
      clear hbb
      show wpList _ _ _ _ _ _
      go_wp2
      exact ⟨HBB.out, R3.setB hab hbc ((Only.refl _ _).setCell (.inl (by simp)) _) HBB.out, rfl⟩
    · injection ho with ho
      subst ho
      obtain ⟨u, hbb, _⟩ := HR.out.rc y HC.out.drew
      have x0 := hbb.cell 0
      have f0 := hbb.frozen 0
      have l0 := hbb.lt
      have HBB := Lib.hid (show Blk (w1.setCell ⟨c, 0, none⟩ (iv e)) c 34 #[iv e] from hbb.set_ 0 _)
      simp at x0
      intro v hv
      obtain rfl : v = iv e := hv
      simp only [Lex.dstOf, List.getElem?_cons_zero, List.getElem?_cons_succ, Option.bind_some]
      clear hbb
      show wpList _ _ _ _ _ _
      go_wp2
      exact ⟨HBB.out, R3.setC hac hbc ((Only.refl _ _).setCell (.inl (by simp)) _) HBB.out, rfl⟩
    · cases ho
  · intro w1 hR
    have HO1 := Lib.hid ((HO.out.drew).trans hR.only)
    intro v0 h0 v1 h1 v2 h2 v3 h3 v4 h4 v5 h5 v6 h6 v7 h7
    have HH := Lib.hid (show Blk w1 a 33 zeroV.toArray ∧ Blk w1 b 3 #[iv p] ∧ Blk w1 c 34 #[iv e] from ⟨h5, h6, h7⟩)
    clear h0 h1 h2 h3 h4 h5 h6 h7 hR
    simp only [Lex.dstOf, List.getElem?_cons_zero, List.getElem?_cons_succ, Option.bind_some, Lex.WithDeps]
    go_wp2
    simp [bodyPostS, results, Try.results35]
    exact ⟨rfl, HH.out.1, HH.out.2.1, HH.out.2.2, HO1.out⟩
end Go.Proofs.Ytffdfegelgpniaa
