/-
  Read: what goes up is caught.
-/
import Derived.Test.YtffdfegelgpniaaZVr
import Derived.Tactics2
import Derived.Defers
import Derived.Recover
import Derived.Laws.Pointers
set_option linter.unusedSimpArgs false
set_option linter.unusedVariables false
set_option linter.unusedSimpArgs false
set_option linter.unusedVariables false
namespace Go.Proofs.Ytffdfegelgpniaa
open Go.RowKit Go.Fl

theorem fr19 (a b c x : Value) : (#[a, b, c] ++ ((Array.replicate 19 undef).setIfInBounds 3 x).setIfInBounds 0 x : Array Value) = #[a, b, c, x, undef, undef, x, undef, undef, undef, undef, undef, undef, undef, undef, undef, undef, undef, undef, undef, undef, undef] := by
  apply Array.ext'
  simp [List.replicate]
theorem assert61 (v : Value) (w : World) : (Instr.typeAssert (.iface 61 v) 20 61 true).run Try.prog w = .ok (.tuple #[v, .bool true]) w := by
  simp [Instr.typeAssert, run_underlying Try.underlying61]
set_option maxRecDepth 100000 in
theorem catch_idle (a b c : Nat) (w : World) :
    CallsD Try.prog 35 #[.pointer (some ⟨a, 0, none⟩), .pointer (some ⟨b, 0, none⟩), .pointer (some ⟨c, 0, none⟩)] .returning w fun e u' w' => e = .returned (.tuple #[]) ∧ u' = .returning ∧ w' = w := by
  refine callsD_of_wpS Try.func35 rfl fun c₀ cs hu => ?_
  apply wpS_seq
  apply wpS_region
  simp [wpOpsS, go_sem, recoverD, hu, Try.ntmps35, Exit.thenS]
  rw [fr19]
  refine wpS_of_wp ?_
  go_wp2
  cases c₀
  simp_all [bodyPostS, results, Try.results35]
/-- Three results are laid, in whatever order. -/
structure R3 (a b c : Nat) (Z : Array Value) (x y : Value) (w w' : World) : Prop where
  only : Only [a, b, c] w w'
  ra : ∀ cs, Blk w a 33 cs → cs.size = 5 → ∃ cs', Blk w' a 33 cs' ∧ cs'.size = 5 ∧ (cs = Z → cs' = Z)
  rb : ∀ u, Blk w b 3 #[u] → ∃ u', Blk w' b 3 #[u'] ∧ (u = x → u' = x)
  rc : ∀ u, Blk w c 34 #[u] → ∃ u', Blk w' c 34 #[u'] ∧ (u = y → u' = y)
section
variable {a b c : Nat} {Z : Array Value} {x y : Value} {w w' w2 : World}
theorem R3.refl (w : World) : R3 a b c Z x y w w := ⟨Only.refl _ _, fun cs h k => ⟨cs, h, k, fun e => e⟩, fun u h => ⟨u, h, fun e => e⟩, fun u h => ⟨u, h, fun e => e⟩⟩
theorem R3.trans (h : R3 a b c Z x y w w') (k : R3 a b c Z x y w' w2) : R3 a b c Z x y w w2 :=
  ⟨h.only.trans k.only, fun cs h1 h2 => by
    obtain ⟨c1, h3, h4, h5⟩ := h.ra cs h1 h2
    obtain ⟨c2, h6, h7, h8⟩ := k.ra c1 h3 h4
    exact ⟨c2, h6, h7, fun e => h8 (h5 e)⟩, fun u h1 => by
    obtain ⟨c1, h3, h5⟩ := h.rb u h1
    obtain ⟨c2, h6, h8⟩ := k.rb c1 h3
    exact ⟨c2, h6, fun e => h8 (h5 e)⟩, fun u h1 => by
    obtain ⟨c1, h3, h5⟩ := h.rc u h1
    obtain ⟨c2, h6, h8⟩ := k.rc c1 h3
    exact ⟨c2, h6, fun e => h8 (h5 e)⟩⟩
theorem R3.setA (hab : a ≠ b) (hac : a ≠ c) (ho : Only [a] w w') (hz : Blk w' a 33 Z) (hs : Z.size = 5) : R3 a b c Z x y w w' :=
  ⟨ho.mono (by simp), fun cs _ _ => ⟨Z, hz, hs, fun _ => rfl⟩, fun u h => ⟨u, h.only ho (by simp; omega), fun e => e⟩, fun u h => ⟨u, h.only ho (by simp; omega), fun e => e⟩⟩
theorem R3.setB (hab : a ≠ b) (hbc : b ≠ c) (ho : Only [b] w w') (hz : Blk w' b 3 #[x]) : R3 a b c Z x y w w' :=
  ⟨ho.mono (by simp), fun cs h k => ⟨cs, h.only ho (by simp; omega), k, fun e => e⟩, fun u _ => ⟨x, hz, fun _ => rfl⟩, fun u h => ⟨u, h.only ho (by simp; omega), fun e => e⟩⟩
theorem R3.setC (hac : a ≠ c) (hbc : b ≠ c) (ho : Only [c] w w') (hz : Blk w' c 34 #[y]) : R3 a b c Z x y w w' :=
  ⟨ho.mono (by simp), fun cs h k => ⟨cs, h.only ho (by simp; omega), k, fun e => e⟩, fun u h => ⟨u, h.only ho (by simp; omega), fun e => e⟩, fun u _ => ⟨y, hz, fun _ => rfl⟩⟩
end
def CPhi (a b c g : Nat) (p e : Int) : Nat → Value → World → Prop
  | 0, v, _ => v = .agg zeroV.toArray
  | 1, v, _ => v = .pointer (some ⟨g, 0, none⟩)
  | 2, v, _ => v = iv p
  | 3, v, _ => v = .pointer (some ⟨g, 1, none⟩)
  | 4, v, _ => v = iv e
  | 5, _, w' => Blk w' a 33 zeroV.toArray
  | 6, _, w' => Blk w' b 3 #[iv p]
  | 7, _, w' => Blk w' c 34 #[iv e]
  | _, _, _ => True
theorem C_st {a b c g : Nat} {p e : Int} (i : Nat) (v : Value) (w w' : World) (h : CPhi a b c g p e i v w) (k : R3 a b c zeroV.toArray (iv p) (iv e) w w') : CPhi a b c g p e i v w' := by
  match i, h with
  | 0, h => exact h
  | 1, h => exact h
  | 2, h => exact h
  | 3, h => exact h
  | 4, h => exact h
  | 5, h =>
    obtain ⟨cs, h1, _, h2⟩ := k.ra _ h rfl
    rw [h2 rfl] at h1
    exact h1
  | 6, h =>
    obtain ⟨u, h1, h2⟩ := k.rb _ h
    rw [h2 rfl] at h1
    exact h1
  | 7, h =>
    obtain ⟨u, h1, h2⟩ := k.rc _ h
    rw [h2 rfl] at h1
    exact h1
  | n + 8, _ => trivial
set_option maxRecDepth 100000 in
set_option maxHeartbeats 1600000 in
theorem catch_wrong {w : World} {a b c : Nat} (p e : Int) {cs : Array Value} {x y : Value} (ha : Blk w a 33 cs) (hcs : cs.size = 5) (hb : Blk w b 3 #[x]) (hc : Blk w c 34 #[y]) (hab : a ≠ b) (hac : a ≠ c) (hbc : b ≠ c) :
    CallsD Try.prog 35 #[.pointer (some ⟨a, 0, none⟩), .pointer (some ⟨b, 0, none⟩), .pointer (some ⟨c, 0, none⟩)] (.panicking [{ v := wrongV p e, recovered := false }]) w fun z u' w' => z = .returned (.tuple #[]) ∧ u' = .panicking [{ v := wrongV p e, recovered := true }] ∧
      Blk w' a 33 zeroV.toArray ∧ Blk w' b 3 #[iv p] ∧ Blk w' c 34 #[iv e] ∧ Only [a, b, c] w w' := by
  refine callsD_of_wpS Try.func35 rfl fun c₀ cs' hu => ?_
  apply wpS_seq
  apply wpS_region
  simp [wpOpsS, go_sem, recoverD, hu, Try.ntmps35, Exit.thenS, wrongV]
  rw [fr19]
  refine wpS_of_wp ?_
  have hta := assert61
  have HG := Lib.hid (show Blk (w.alloc (.cells #[.int .i64 p, .int .i64 e] 61)) w.heap.size 61 #[iv p, iv e] from Blk.new _ _ _)
  have HA := Lib.hid (show Blk (w.alloc (.cells #[.int .i64 p, .int .i64 e] 61)) a 33 cs from ha.alloc _)
  have HB := Lib.hid (show Blk (w.alloc (.cells #[.int .i64 p, .int .i64 e] 61)) b 3 #[x] from hb.alloc _)
  have HC := Lib.hid (show Blk (w.alloc (.cells #[.int .i64 p, .int .i64 e] 61)) c 34 #[y] from hc.alloc _)
  have HO := Lib.hid (show Only [a, b, c] w (w.alloc (.cells #[.int .i64 p, .int .i64 e] 61)) from (Only.refl _ w).alloc _)
  have hwa := ha.lt
  have hwb := hb.lt
  have hwc := hc.lt
  clear ha hb hc
  go_wp2
  generalize w.alloc (.cells #[.int .i64 p, .int .i64 e] 61) = w0 at *
  refine Lex.wp_region_each (by kernel_rfl) [[], [], [1], [], [3], [0], [2], [4]] (by kernel_rfl) (by rfl) (R3 a b c zeroV.toArray (iv p) (iv e)) R3.refl (fun _ _ _ => R3.trans) (CPhi a b c w.heap.size p e) (fun i v w w' h k => C_st i v w w' h k) ?_ ?_
  · intro i o ho w1 hR
    have HR := Lib.hid hR
    clear hR
    rcases i with _ | _ | _ | _ | _ | _ | _ | _ | i
    · injection ho with ho
      subst ho
      show wpList _ _ _ _ _ _
      go_wp2
      exact ⟨rfl, R3.refl _, rfl⟩
    · injection ho with ho
      subst ho
      show wpList _ _ _ _ _ _
      go_wp2
      exact ⟨rfl, R3.refl _, rfl⟩
    · injection ho with ho
      subst ho
      have x0 := (HG.out.drew.only HR.out.only (by simp; omega)).cell 0
      simp at x0
      intro v hv
      obtain rfl : v = .pointer (some ⟨w.heap.size, 0, none⟩) := hv
      simp only [Lex.dstOf, List.getElem?_cons_zero, List.getElem?_cons_succ, Option.bind_some]
      show wpList _ _ _ _ _ _
      go_wp2
      exact ⟨rfl, R3.refl _, rfl⟩
    · injection ho with ho
      subst ho
      show wpList _ _ _ _ _ _
      go_wp2
      exact ⟨rfl, R3.refl _, rfl⟩
    · injection ho with ho
      subst ho
      have x0 := (HG.out.drew.only HR.out.only (by simp; omega)).cell 1
      simp at x0
      intro v hv
      obtain rfl : v = .pointer (some ⟨w.heap.size, 1, none⟩) := hv
      simp only [Lex.dstOf, List.getElem?_cons_zero, List.getElem?_cons_succ, Option.bind_some]
      show wpList _ _ _ _ _ _
      go_wp2
      exact ⟨rfl, R3.refl _, rfl⟩
    · injection ho with ho
      subst ho
      obtain ⟨ca, hba, hsz, _⟩ := HR.out.ra cs HA.out.drew hcs
      intro v hv
      obtain rfl : v = .agg zeroV.toArray := hv
      simp only [Lex.dstOf, List.getElem?_cons_zero, List.getElem?_cons_succ, Option.bind_some]
      show wpList _ _ _ _ _ _
      go_wp2_with (refine wpList_store_blk rfl 33 (.tmp 0) (.tmp 17) rfl zeroV rfl rfl hba (by kernel_rfl) (by simp [hsz]) (by simp [Value.oneCell']) ?_)
      intro w2 hA2 hO2
      rw [List.drop_eq_nil_of_le (by simp [hsz])] at hA2
      have hA3 : Blk w2 a 33 zeroV.toArray := hA2
      have HA3 := Lib.hid hA3
      have HO2 := Lib.hid hO2
      clear hA2 hA3 hO2 hba
      go_wp2
      exact ⟨HA3.out, R3.setA hab hac HO2.out HA3.out rfl, rfl⟩
    · injection ho with ho
      subst ho
      obtain ⟨u, hbb, _⟩ := HR.out.rb x HB.out.drew
      have x0 := hbb.cell 0
      have f0 := hbb.frozen 0
      have l0 := hbb.lt
      have HBB := Lib.hid (show Blk (w1.setCell ⟨b, 0, none⟩ (iv p)) b 3 #[iv p] from hbb.set_ 0 _)
      simp at x0
      intro v hv
      obtain rfl : v = iv p := hv
      simp only [Lex.dstOf, List.getElem?_cons_zero, List.getElem?_cons_succ, Option.bind_some]
      clear hbb
      show wpList _ _ _ _ _ _
      go_wp2
      exact ⟨HBB.out, R3.setB hab hbc ((Only.refl _ _).setCell (.inl (by simp)) _) HBB.out, rfl⟩
    · injection ho with ho
      subst ho
      obtain ⟨u, hbb, _⟩ := HR.out.rc y HC.out.drew
      have x0 := hbb.cell 0
      have f0 := hbb.frozen 0
      have l0 := hbb.lt
      have HBB := Lib.hid (show Blk (w1.setCell ⟨c, 0, none⟩ (iv e)) c 34 #[iv e] from hbb.set_ 0 _)
      simp at x0
      intro v hv
      obtain rfl : v = iv e := hv
      simp only [Lex.dstOf, List.getElem?_cons_zero, List.getElem?_cons_succ, Option.bind_some]
      clear hbb
      show wpList _ _ _ _ _ _
      go_wp2
      exact ⟨HBB.out, R3.setC hac hbc ((Only.refl _ _).setCell (.inl (by simp)) _) HBB.out, rfl⟩
    · cases ho
  · intro w1 hR
    have HO1 := Lib.hid ((HO.out.drew).trans hR.only)
    intro v0 h0 v1 h1 v2 h2 v3 h3 v4 h4 v5 h5 v6 h6 v7 h7
    have HH := Lib.hid (show Blk w1 a 33 zeroV.toArray ∧ Blk w1 b 3 #[iv p] ∧ Blk w1 c 34 #[iv e] from ⟨h5, h6, h7⟩)
    clear h0 h1 h2 h3 h4 h5 h6 h7 hR
    simp only [Lex.dstOf, List.getElem?_cons_zero, List.getElem?_cons_succ, Option.bind_some, Lex.WithDeps]
    go_wp2
    simp [bodyPostS, results, Try.results35]
    exact ⟨rfl, HH.out.1, HH.out.2.1, HH.out.2.2, HO1.out⟩
end Go.Proofs.Ytffdfegelgpniaa
/-
  Read.
-/
set_option linter.unusedSimpArgs false
set_option linter.unusedVariables false
namespace Go.Proofs.Ytffdfegelgpniaa
open Go.RowKit Go.Fl

theorem list_val : ∀ n, LstOk n ∧ ValOk n := by
  intro n
  induction n using Nat.strongRecOn with
  | _ n ih => exact ⟨list_step n fun m hm => (ih m hm).2, val_step n fun m hm => (ih m hm).1⟩
/-- What bytes are read as. -/
def pread (bs : List Nat) : PR := match bs[0]? with
  | none => .bad bs.length 2
  | some c => pval (2 * bs.length + 4) bs c 0 1 65536
def ReadPost (w : World) (res : PR) (e : Ending) (w' : World) : Prop :=
  match res with
  | .bad p c => e = .returned (.tuple #[.agg zeroV.toArray, iv p, iv c]) ∧ Only [] w w'
  | .ok v q _ => ∃ cs S, e = .returned (.tuple #[.agg cs.toArray, iv q, iv 0]) ∧ VO w' v cs S ∧ S.Nodup ∧ (∀ g ∈ S, w.heap.size ≤ g) ∧ Only [] w w'
def EPhi (a b c g : Nat) (Z : Array Value) (q : Nat) : Nat → Value → World → Prop
  | 0, v, _ => v = .agg Z
  | 1, v, _ => v = .pointer (some ⟨g, 0, none⟩)
  | 2, v, _ => v = .pointer (some ⟨g, 0, none⟩)
  | 3, v, _ => v = .pointer (some ⟨g, 1, none⟩)
  | 4, v, _ => v = iv q
  | 5, _, w' => Blk w' a 33 Z
  | 6, _, w' => Blk w' b 3 #[iv q]
  | 7, _, w' => Blk w' c 34 #[iv 0]
  | _, _, _ => True
theorem E_st {a b c g : Nat} {Z : Array Value} {q : Nat} (hZ : Z.size = 5) (i : Nat) (v : Value) (w w' : World) (h : EPhi a b c g Z q i v w) (k : R3 a b c Z (iv q) (iv 0) w w') : EPhi a b c g Z q i v w' := by
  match i, h with
  | 0, h => exact h
  | 1, h => exact h
  | 2, h => exact h
  | 3, h => exact h
  | 4, h => exact h
  | 5, h =>
    obtain ⟨cs, h1, _, h2⟩ := k.ra _ h hZ
    rw [h2 rfl] at h1
    exact h1
  | 6, h =>
    obtain ⟨u, h1, h2⟩ := k.rb _ h
    rw [h2 rfl] at h1
    exact h1
  | 7, h =>
    obtain ⟨u, h1, h2⟩ := k.rc _ h
    rw [h2 rfl] at h1
    exact h1
  | n + 8, _ => trivial
theorem res_cell3 {w : World} {tmps : Array Value} {g tm : Nat} {n : Int} (h : tmps.getD tm undef = .pointer (some ⟨g, 0, none⟩)) (hb : Blk w g 3 #[iv n]) : Res Try.prog w tmps (.cell tm 3) (iv n) := by
  have x0 := hb.cell 0
  simp at x0
  unfold Res resRun
  dsimp only
  rw [h]
  simp [x0, go_sem]
theorem res_cell34 {w : World} {tmps : Array Value} {g tm : Nat} {n : Int} (h : tmps.getD tm undef = .pointer (some ⟨g, 0, none⟩)) (hb : Blk w g 34 #[iv n]) : Res Try.prog w tmps (.cell tm 34) (iv n) := by
  have x0 := hb.cell 0
  simp at x0
  unfold Res resRun
  dsimp only
  rw [h]
  simp [x0, go_sem]
set_option maxRecDepth 100000 in
set_option maxHeartbeats 3200000 in
theorem read_ok {w : World} {F : Nat → Prop} {bs : List Nat} {s : Value} (h : BytesV w F bs s) (hbl : bs.length ≤ 2 ^ 40) : Calls Try.prog 11 #[s] w (ReadPost w (pread bs)) := by
  have hmf : ∀ (fn : Fn) (first cap : Array Value) (w : World), (Instr.makeFunc fn first cap).run Try.prog w = .ok (.func fn first cap) w := fun _ _ _ _ => rfl
  have HBB := Lib.hid (show ∀ c ∈ bs, c < 256 by obtain ⟨_, _, _, _, _, hb, _⟩ := h; exact hb)
  have hf : ∃ a cap, s = .slice a bs.length cap := by obtain ⟨a, cap, e, _⟩ := h; exact ⟨a, cap, e⟩
  obtain ⟨G, hG⟩ : ∃ G : Nat → Prop, G = fun g => F g ∧ g < w.heap.size := ⟨_, rfl⟩
  have HG := Lib.hid (show ∀ g, G g → g < w.heap.size by rw [hG]; exact fun _ h => h.2)
  have HBV := Lib.hid (show BytesV w G bs s by rw [hG]; exact h.keep (Nat.le_refl _) (fun _ _ _ => rfl) fun g hf hg => ⟨hf, hg⟩)
  clear h hG
  obtain ⟨sa, sc, rfl⟩ := hf
  obtain ⟨w4, hw4⟩ : ∃ x : World, x = (((w.alloc (.cells zeroV.toArray 33)).alloc (.cells #[.int .i64 0] 3)).alloc (.cells #[.int .i64 0] 34)).alloc (.cells #[.slice sa bs.length sc, .int .i64 0, .int .i64 65536] 59) := ⟨_, rfl⟩
  have HW4 := Lib.hid hw4
  have HO := Lib.hid (show Only [] w w4 by rw [hw4]; exact ((((Only.refl _ w).alloc _).alloc _).alloc _).alloc _)
  have HA := Lib.hid (show Blk w4 w.heap.size 33 zeroV.toArray by rw [hw4]; exact (((Blk.new _ _ _).alloc _).alloc _).alloc _)
  have HB := Lib.hid (show Blk w4 (w.heap.size + 1) 3 #[iv 0] by rw [hw4]; have := Blk.new (w.alloc (.cells zeroV.toArray 33)) 3 #[iv 0]; rw [show (w.alloc (.cells zeroV.toArray 33)).heap.size = w.heap.size + 1 by simp] at this; exact (this.alloc _).alloc _)
  have HC := Lib.hid (show Blk w4 (w.heap.size + 1 + 1) 34 #[iv 0] by rw [hw4]; have := Blk.new ((w.alloc (.cells zeroV.toArray 33)).alloc (.cells #[.int .i64 0] 3)) 34 #[iv 0]; rw [show ((w.alloc (.cells zeroV.toArray 33)).alloc (.cells #[.int .i64 0] 3)).heap.size = w.heap.size + 1 + 1 by simp] at this; exact this.alloc _)
  have HP := Lib.hid (show PS w4 G (w.heap.size + 1 + 1 + 1) bs (.slice sa bs.length sc) 0 65536 from ⟨by rw [hw4]; have := Blk.new (((w.alloc (.cells zeroV.toArray 33)).alloc (.cells #[.int .i64 0] 3)).alloc (.cells #[.int .i64 0] 34)) 59 #[.slice sa bs.length sc, iv 0, iv 65536]; rw [show (((w.alloc (.cells zeroV.toArray 33)).alloc (.cells #[.int .i64 0] 3)).alloc (.cells #[.int .i64 0] 34)).heap.size = w.heap.size + 1 + 1 + 1 by simp] at this; exact this, HBV.out.only HO.out (fun _ _ => by simp), fun hg => by have := HG.out _ hg; omega, Nat.zero_le _⟩)
  have HN := Lib.hid (next_ok HP.out)
  clear hw4
  go_enter_defers Try.func11, Try.ntmps11
  go_wp2_with fail
  rw [← HW4.out]
  refine HN.out.mono ?_
  clear HN
  intro e w5 hn
  unfold NextPost at hn
  have HPR := Lib.hid (show pread bs = match bs[0]? with | none => .bad bs.length 2 | some c => pval (2 * bs.length + 4) bs c 0 1 65536 from rfl)
  by_cases h0 : 0 < bs.length
  case neg =>
    rw [List.getElem?_eq_none (by omega)] at hn HPR
    obtain ⟨rfl, ho⟩ := hn
    have hcw := catch_wrong (p := bs.length) (e := 2) (HA.out.only ho (by simp <;> omega)) rfl (HB.out.only ho (by simp <;> omega)) (HC.out.only ho (by simp <;> omega)) (by omega) (by omega) (by omega)
    have HCW := Lib.hid hcw
    have HO5 := Lib.hid (HO.out.trans' ho (fun i hi => .inr (by simp at hi; omega)))
    clear ho hcw
    go_wp2
    refine leaves_cons (f := 35) (args := #[.pointer (some ⟨w.heap.size, 0, none⟩), .pointer (some ⟨w.heap.size + 1, 0, none⟩), .pointer (some ⟨w.heap.size + 1 + 1, 0, none⟩)]) (by simp) (by simp [go_sem]) ?_
    refine HCW.out.mono ?_
    rintro e u' w8 ⟨rfl, rfl, ha, hb, hc, ho⟩
    show ∃ v, _ ∧ _
    refine ⟨_, results3 rfl (res_blk (cs := zeroV) Try.underlying33 (by kernel_rfl) rfl ha) (res_cell3 rfl hb) (res_cell34 rfl hc), ?_⟩
    rw [HPR.out]
    exact ⟨rfl, HO5.out.trans' ho (fun i hi => .inr (by simp at hi; omega))⟩
  rw [List.getElem?_eq_getElem h0] at hn HPR
  obtain ⟨rfl, hps, ho⟩ := hn
  have hcb := HBB.out _ (List.getElem_mem h0)
  have HPR := Lib.hid (show pread bs = pval (2 * bs.length + 4) bs bs[0] 0 1 65536 from HPR.out)
  have hw45 := hps.blk.lt
  have HV := Lib.hid ((list_val (2 * bs.length + 4)).2 w5 G (w.heap.size + 1 + 1 + 1) bs (.slice sa bs.length sc) bs[0] 0 1 65536 hps (by omega) (by omega) hbl (by omega) hcb (by omega))
  have HO5 := Lib.hid (HO.out.trans' ho (fun i hi => .inr (by simp at hi; omega)))
  have HA5 := Lib.hid (HA.out.only ho (by simp <;> omega))
  have HB5 := Lib.hid (HB.out.only ho (by simp <;> omega))
  have HC5 := Lib.hid (HC.out.only ho (by simp <;> omega))
  clear hps ho HA HB HC HO HP
  generalize hc0 : bs[0] = c at *
  clear hc0
  generalize hres : pval (2 * bs.length + 4) bs c 0 1 65536 = res at *
  clear hres
  go_wp2_with fail
  refine HV.out.mono ?_
  clear HV
  intro e w6 hv
  cases res with
  | bad p0 e0 =>
    obtain ⟨rfl, ho⟩ := hv
    have HCW := Lib.hid (catch_wrong (p := p0) (e := e0) (HA5.out.only ho (by simp <;> omega)) rfl (HB5.out.only ho (by simp <;> omega)) (HC5.out.only ho (by simp <;> omega)) (by omega) (by omega) (by omega))
    have HO6 := Lib.hid (HO5.out.trans' ho (fun i hi => .inr (by simp at hi; omega)))
    clear ho
    go_wp2
    refine leaves_cons (f := 35) (args := #[.pointer (some ⟨w.heap.size, 0, none⟩), .pointer (some ⟨w.heap.size + 1, 0, none⟩), .pointer (some ⟨w.heap.size + 1 + 1, 0, none⟩)]) (by simp) (by simp [go_sem]) ?_
    refine HCW.out.mono ?_
    rintro e u' w8 ⟨rfl, rfl, ha, hb, hc, ho⟩
    show ∃ v, _ ∧ _
    refine ⟨_, results3 rfl (res_blk (cs := zeroV) Try.underlying33 (by kernel_rfl) rfl ha) (res_cell3 rfl hb) (res_cell34 rfl hc), ?_⟩
    rw [HPR.out]
    exact ⟨rfl, HO6.out.trans' ho (fun i hi => .inr (by simp at hi; omega))⟩
  | ok v q rm =>
    obtain ⟨cs, S, rfl, hvo, hnd, hge, hps, ho⟩ := hv
    obtain ⟨k0, i0, r0, t0, sa0, sn0, sc0, rfl⟩ := hvo.form
    have HVO := Lib.hid (And.intro hvo (And.intro hnd hge))
    have HP6 := Lib.hid hps
    have HO6 := Lib.hid (HO5.out.trans' ho (fun i hi => .inr (by simp at hi; omega)))
    have HA6 := Lib.hid (HA5.out.only ho (by simp <;> omega))
    have HB6 := Lib.hid (HB5.out.only ho (by simp <;> omega))
    have HC6 := Lib.hid (HC5.out.only ho (by simp <;> omega))
    clear hvo hnd hge hps ho
    go_wp2_with (refine wpList_store_blk rfl 33 (.tmp 2) (.tmp 13) rfl [iv k0, iv i0, fv r0, .string t0, .slice sa0 sn0 sc0] rfl rfl HA6.out (by kernel_rfl) (by simp) (by simp [Value.oneCell']) ?_)
    intro w7 hA7 hO7
    have HA7 := Lib.hid hA7
    have HO7 := Lib.hid (HO6.out.trans' hO7 (fun i hi => .inr (by simp at hi; omega)))
    have HB7 := Lib.hid (HB6.out.only hO7 (by simp <;> omega))
    have HC7 := Lib.hid (HC6.out.only hO7 (by simp <;> omega))
    have HP7 := Lib.hid (HP6.out.far hO7 (by omega) (fun g hg => by have := HG.out g hg; omega))
    have HV7 := Lib.hid (HVO.out.1.only hO7 (fun g hg => by have := HVO.out.2.2 g hg; simp; omega))
    clear hA7 hO7
    go_wp2
    have hZ : (#[iv k0, iv i0, fv r0, .string t0, .slice sa0 sn0 sc0] : Array Value).size = 5 := rfl
    refine Lex.wp_region_each (by kernel_rfl) [[], [], [1], [2], [3], [0], [4], []] (by kernel_rfl) (by rfl) (R3 w.heap.size (w.heap.size + 1) (w.heap.size + 1 + 1) #[iv k0, iv i0, fv r0, .string t0, .slice sa0 sn0 sc0] (iv q) (iv 0)) R3.refl (fun _ _ _ => R3.trans)
      (EPhi w.heap.size (w.heap.size + 1) (w.heap.size + 1 + 1) (w.heap.size + 1 + 1 + 1) #[iv k0, iv i0, fv r0, .string t0, .slice sa0 sn0 sc0] q) (fun i v w w' h k => E_st hZ i v w w' h k) ?_ ?_
    · intro i o ho w8 hR
      have HR := Lib.hid hR
      clear hR
      rcases i with _ | _ | _ | _ | _ | _ | _ | _ | i
      · injection ho with ho
        subst ho
        obtain ⟨ca, hba, _, hcz⟩ := HR.out.ra _ HA7.out.drew hZ
        obtain rfl := hcz rfl
        have x0 := hba.cell 0
        have x1 := hba.cell 1
        have x2 := hba.cell 2
        have x3 := hba.cell 3
        have x4 := hba.cell 4
        simp at x0 x1 x2 x3 x4
        clear hba hcz
        show wpList _ _ _ _ _ _
        go_wp2
        exact ⟨rfl, R3.refl _, rfl⟩
      · injection ho with ho
        subst ho
        show wpList _ _ _ _ _ _
        go_wp2
        exact ⟨rfl, R3.refl _, rfl⟩
      · injection ho with ho
        subst ho
        intro v hv
        obtain rfl : v = .pointer (some ⟨w.heap.size + 1 + 1 + 1, 0, none⟩) := hv
        simp only [Lex.dstOf, List.getElem?_cons_zero, List.getElem?_cons_succ, Option.bind_some]
        show wpList _ _ _ _ _ _
        go_wp2
        exact ⟨rfl, R3.refl _, rfl⟩
      · injection ho with ho
        subst ho
        intro v hv
        obtain rfl : v = .pointer (some ⟨w.heap.size + 1 + 1 + 1, 0, none⟩) := hv
        simp only [Lex.dstOf, List.getElem?_cons_zero, List.getElem?_cons_succ, Option.bind_some]
        show wpList _ _ _ _ _ _
        go_wp2
        exact ⟨rfl, R3.refl _, rfl⟩
      · injection ho with ho
        subst ho
        have x0 := (HP7.out.blk.drew.only HR.out.only (by simp; omega)).cell 1
        simp at x0
        intro v hv
        obtain rfl : v = .pointer (some ⟨w.heap.size + 1 + 1 + 1, 1, none⟩) := hv
        simp only [Lex.dstOf, List.getElem?_cons_zero, List.getElem?_cons_succ, Option.bind_some]
        show wpList _ _ _ _ _ _
        go_wp2
        exact ⟨rfl, R3.refl _, rfl⟩
      · injection ho with ho
        subst ho
        obtain ⟨ca, hba, _, hcz⟩ := HR.out.ra _ HA7.out.drew hZ
        obtain rfl := hcz rfl
        intro v hv
        obtain rfl : v = .agg #[iv k0, iv i0, fv r0, .string t0, .slice sa0 sn0 sc0] := hv
        simp only [Lex.dstOf, List.getElem?_cons_zero, List.getElem?_cons_succ, Option.bind_some]
        show wpList _ _ _ _ _ _
        go_wp2_with (refine wpList_store_blk rfl 33 (.tmp 2) (.tmp 14) rfl [iv k0, iv i0, fv r0, .string t0, .slice sa0 sn0 sc0] rfl rfl hba (by kernel_rfl) (by simp) (by simp [Value.oneCell']) ?_)
        intro w9 hA2 hO2
        have HA3 := Lib.hid (show Blk w9 w.heap.size 33 #[iv k0, iv i0, fv r0, .string t0, .slice sa0 sn0 sc0] from hA2)
        have HO2 := Lib.hid hO2
        clear hA2 hO2 hba
        go_wp2
        exact ⟨HA3.out, R3.setA (by omega) (by omega) HO2.out HA3.out rfl, rfl⟩
      · injection ho with ho
        subst ho
        obtain ⟨u, hbb, _⟩ := HR.out.rb _ HB7.out.drew
        have x0 := hbb.cell 0
        have f0 := hbb.frozen 0
        have l0 := hbb.lt
        have HBB2 := Lib.hid (show Blk (w8.setCell ⟨w.heap.size + 1, 0, none⟩ (iv q)) (w.heap.size + 1) 3 #[iv q] from hbb.set_ 0 _)
        simp at x0
        intro v hv
        obtain rfl : v = iv q := hv
        simp only [Lex.dstOf, List.getElem?_cons_zero, List.getElem?_cons_succ, Option.bind_some]
        clear hbb
        show wpList _ _ _ _ _ _
        go_wp2
        exact ⟨HBB2.out, R3.setB (by omega) (by omega) ((Only.refl _ _).setCell (.inl (by simp)) _) HBB2.out, rfl⟩
      · injection ho with ho
        subst ho
        obtain ⟨u, hbb, _⟩ := HR.out.rc _ HC7.out.drew
        have x0 := hbb.cell 0
        have f0 := hbb.frozen 0
        have l0 := hbb.lt
        have HBB2 := Lib.hid (show Blk (w8.setCell ⟨w.heap.size + 1 + 1, 0, none⟩ (iv 0)) (w.heap.size + 1 + 1) 34 #[iv 0] from hbb.set_ 0 _)
        simp at x0
        clear hbb
        show wpList _ _ _ _ _ _
        go_wp2
        exact ⟨HBB2.out, R3.setC (by omega) (by omega) ((Only.refl _ _).setCell (.inl (by simp)) _) HBB2.out, rfl⟩
      · cases ho
    · intro w8 hR
      have HO8 := Lib.hid (HO7.out.drew.trans' hR.only (fun i hi => .inr (by simp at hi; omega)))
      have HV8 := Lib.hid ((HV7.out.keep (w' := w7.drew) (fun _ _ => rfl)).only hR.only (fun g hg => by have := HVO.out.2.2 g hg; simp; omega))
      intro v0 h0 v1 h1 v2 h2 v3 h3 v4 h4 v5 h5 v6 h6 v7 h7
      have HH := Lib.hid (show Blk w8 w.heap.size 33 #[iv k0, iv i0, fv r0, .string t0, .slice sa0 sn0 sc0] ∧ Blk w8 (w.heap.size + 1) 3 #[iv q] ∧ Blk w8 (w.heap.size + 1 + 1) 34 #[iv 0] from ⟨h5, h6, h7⟩)
      clear h0 h1 h2 h3 h4 h5 h6 h7 hR
      simp only [Lex.dstOf, List.getElem?_cons_zero, List.getElem?_cons_succ, Option.bind_some, Lex.WithDeps]
      go_wp2
      refine leaves_cons (f := 35) (args := #[.pointer (some ⟨w.heap.size, 0, none⟩), .pointer (some ⟨w.heap.size + 1, 0, none⟩), .pointer (some ⟨w.heap.size + 1 + 1, 0, none⟩)]) (by simp) (by simp [go_sem]) ?_
      refine (catch_idle _ _ _ w8).mono ?_
      rintro e u' w9 ⟨rfl, rfl, rfl⟩
      show ∃ v, _ ∧ _
      refine ⟨_, results3 rfl (res_blk (cs := [iv k0, iv i0, fv r0, .string t0, .slice sa0 sn0 sc0]) Try.underlying33 (by kernel_rfl) rfl HH.out.1) (res_cell3 rfl HH.out.2.1) (res_cell34 rfl HH.out.2.2), ?_⟩
      rw [HPR.out]
      exact ⟨[iv k0, iv i0, fv r0, .string t0, .slice sa0 sn0 sc0], S, rfl, HV8.out, HVO.out.2.1, (fun g hg => by have := HVO.out.2.2 g hg; omega), HO8.out⟩
end Go.Proofs.Ytffdfegelgpniaa
/-
  The law's Eq of bytes; the document's Eq of values.
-/
set_option linter.unusedSimpArgs false
set_option linter.unusedVariables false
namespace Go.Proofs.Ytffdfegelgpniaa
open Go.RowKit Go.Fl

theorem bytes_of_sl {w : World} {v : Value} {n : Nat} {bs : List Nat} (h : Sl w 5 1 v n (bs.map bv)) (hb : ∀ c ∈ bs, c < 256) : BytesV w (fun g => v.ownBlock = some g) bs v := by
  have hn : n = bs.length := by have := h.len; simpa using this.symm
  subst hn
  have hform : ∃ a cap, v = .slice a bs.length cap ∧ bs.length ≤ cap ∧ cap ≤ maxLen := by
    rcases h.2 with ⟨e, e2⟩ | ⟨g, off, cap', cur, e, hh, h1, h2, _, _⟩
    · exact ⟨_, _, e.trans (by rw [e2]), by omega, by decide⟩
    · exact ⟨_, _, e, h1, h2⟩
  obtain ⟨a, cap, rfl, hc1, hc2⟩ := hform
  refine ⟨a, cap, rfl, hc1, hc2, hb, fun h0 => ?_⟩
  obtain ⟨g, off, cap', hv, hg, _, _, hc, _⟩ := h.form h0
  injection hv with e1 _ e3
  subst e1
  refine ⟨g, off, rfl, hg, rfl, fun j hj => ?_⟩
  rw [hc j (by omega)]
  simp [hj]
set_option maxRecDepth 100000 in
theorem eqB_ok {w : World} {F F2 : Nat → Prop} {b1 b2 : List Nat} {s1 s2 : Value} (h1 : BytesV w F b1 s1) (h2 : BytesV w F2 b2 s2) : Calls Try.prog 22 #[s1, s2] w fun e w' => e = .returned (.bool (decide (b1 = b2))) ∧ Only [] w w' := by
  obtain ⟨a, cap, rfl, _, hm, _, hc1⟩ := h1
  obtain ⟨a2, cap2, rfl, _, hm2, _, hc2⟩ := h2
  have HC1 := Lib.hid hc1
  have HC2 := Lib.hid hc2
  clear hc1 hc2
  have hlm : b1.length ≤ maxLen := by omega
  have hlm2 : b2.length ≤ maxLen := by omega
  unfold maxLen at hlm hlm2
  by_cases hl : b1.length = b2.length
  case neg =>
    have hz : ((b1.length : Int) != (b2.length : Int)) = true := by rw [bne_iff_ne]; omega
    have HF := Lib.hid (show decide (b1 = b2) = false from decide_eq_false fun e => hl (by rw [e]))
    rw [HF.out]
    go_enter Try.func22, Try.ntmps22
    go_wp2
    exact bodyPost_ret (results_tmp rfl _ _ _) rfl ⟨rfl, Only.refl _ _⟩
  have hz : ((b1.length : Int) != (b2.length : Int)) = false := by rw [bne_eq_false_iff_eq]; omega
  have HLL := Lib.hid hl
  clear hl
  go_enter Try.func22, Try.ntmps22
  go_wp2
  go_loopw [5] (fun z wr => ∃ k : Nat, k ≤ b1.length ∧ z = .int .i64 k ∧ Hid (b1.take k = b2.take k) ∧ Hid (Only [] w wr)) (fun z _ => b1.length - (intOf z).toNat)
  case atStart => exact ⟨0, Nat.zero_le _, rfl, Lib.hid rfl, Lib.hid (Only.refl _ _)⟩
  case round =>
    obtain ⟨k, hk, rfl, HT, HO⟩ := hrel
    by_cases hkl : k < b1.length
    · have hkz : (k : Int) < (b1.length : Int) := by omega
      have hk2 : k < b2.length := by have := HLL.out; omega
      have hkz2 : (k : Int) < (b2.length : Int) := by omega
      obtain ⟨g, on, rfl, hg, _, hg1⟩ := HC1.out (by omega)
      obtain ⟨g2, on2, rfl, hg2, _, hg3⟩ := HC2.out (by omega)
      have x1 : wr.cell? ⟨g, on + k, none⟩ = some (bv b1[k]) := (HO.out.cell (p := ⟨g, on + k, none⟩) hg (by simp)).trans (hg1 k hkl)
      have x2 : wr.cell? ⟨g2, on2 + k, none⟩ = some (bv b2[k]) := (HO.out.cell (p := ⟨g2, on2 + k, none⟩) hg2 (by simp)).trans (hg3 k hk2)
      clear hg1 hg3 HC1 HC2
      by_cases he : b1[k] = b2[k]
      · have hq : ((b1[k] : Int) != (b2[k] : Int)) = false := by rw [bne_eq_false_iff_eq]; omega
        have HN := Lib.hid (show b1.take (k + 1) = b2.take (k + 1) by rw [List.take_succ_eq_append_getElem hkl, List.take_succ_eq_append_getElem hk2, HT.out, he])
        have HE := Lib.hid he
        clear he
        go_wp2
        go_quiet (fail)
        go_wp2
        go_roundw
        case measure => simp [intOf]; omega
        case rel => exact ⟨k + 1, by omega, by go_num, HN, Lib.hid (HO.out.drewN _)⟩
      · have hq : ((b1[k] : Int) != (b2[k] : Int)) = true := by rw [bne_iff_ne]; omega
        have HF := Lib.hid (show decide (b1 = b2) = false from decide_eq_false fun e => he (by subst e; rfl))
        have HE := Lib.hid he
        clear he
        go_wp2
        go_quiet (fail)
        go_wp2
        refine bodyPost_ret (results_tmp rfl _ _ _) rfl ⟨?_, HO.out.drewN _⟩
        exact congrArg (fun z => Ending.returned (.bool z)) HF.out.symm
    · obtain rfl : k = b1.length := by omega
      have HF := Lib.hid (show decide (b1 = b2) = true from decide_eq_true (by
        have := HT.out
        rw [List.take_length, HLL.out, List.take_length] at this
        exact this))
      clear HC1 HC2
      go_wp2
      refine bodyPost_ret (results_tmp rfl _ _ _) rfl ⟨?_, HO.out⟩
      exact congrArg (fun z => Ending.returned (.bool z)) HF.out.symm
mutual
/-- The same in all. -/
def eqV : V → V → Bool
  | .mk k i r t l, b => match b with | .mk k' i' r' t' l' => decide (k = k') && decide (i = i') && decide (r = r') && decide (t.data.toList = t'.data.toList) && decide (l.length = l'.length) && eqVs l l'
def eqVs : List V → List V → Bool
  | [], _ => true
  | a :: l, m => match m with | [] => true | b :: m => eqV a b && eqVs l m
end
set_option maxRecDepth 100000 in
theorem bits_ok (w : World) (a b : Nat) : Calls Try.prog 39 #[fv a, fv b] w fun e w' => e = .returned (.bool (decide (a = b))) ∧ w' = w := by
  have e := e59
  by_cases h : a = b
  · subst h
    have hz : ((a : Int) == (a : Int)) = true := by simp
    rw [decide_eq_true (Eq.refl a)]
    go_enter Try.func39, Try.ntmps39
    go_wp2
    exact bodyPost_ret (results_tmp rfl _ _ _) rfl ⟨rfl, rfl⟩
  · have hz : ((a : Int) == (b : Int)) = false := by rw [beq_eq_false_iff_ne]; omega
    rw [decide_eq_false h]
    go_enter Try.func39, Try.ntmps39
    go_wp2
    exact bodyPost_ret (results_tmp rfl _ _ _) rfl ⟨rfl, rfl⟩
end Go.Proofs.Ytffdfegelgpniaa
