/-
  The document's own run: who is ready; whose turn it is.
-/
import Derived.Test.YtompelilflckkaaMt
import Derived.Test.YtompelilflckkaaMf
import Derived.Test.YtompelilflckkaaMg
import Derived.Test.YtompelilflckkaaMa
set_option linter.unusedSimpArgs false
set_option linter.unusedVariables false
namespace Go.Proofs.Ytompelilflckkaa
open Go.RowKit Go.Fl

section
variable {w : World} {base r g o : Nat} {f : Nat → Value} {tv : Value} {vs : Nat → Value} {acts : Nat → List A} {raw : Nat → RT} {s : S} {L : Nat}
theorem Sim.live {t : T} {x : RT} (h : Sim t x) (h0 : x.how = 0) : t.died = false ∧ t.pc < t.acts.length ∧ x.at_ = t.pc := by
  have e := h.how
  rw [h0] at e
  by_cases hd : t.died = true
  · rw [if_pos hd] at e; omega
  · rw [if_neg hd] at e
    by_cases hp : t.acts.length ≤ t.pc
    · rw [if_pos hp] at e; omega
    · exact ⟨by simpa using hd, by omega, by have := h.at_; omega⟩
theorem Sim.dead {t : T} {x : RT} (h : Sim t x) (h0 : x.how ≠ 0) : Go.Proofs.Ytompelilflckkaa.how s t ≠ 3 := by
  have e := h.how
  unfold Go.Proofs.Ytompelilflckkaa.how
  by_cases hd : t.died = true
  · rw [if_pos hd]; omega
  · rw [if_neg hd] at e ⊢
    by_cases hp : t.acts.length ≤ t.pc
    · rw [if_pos hp]; omega
    · rw [if_neg hp] at e; exact absurd e h0
set_option maxRecDepth 100000 in
set_option maxHeartbeats 3200000 in
theorem ready2_ok (h : R2 w base r g o f tv vs acts raw s) (hw : WF s L) (hwi : WI s) (hsim : ∀ i, i < s.n → acts i = (s.ts i).acts ∧ Sim (s.ts i) (raw i)) :
    Calls Try.prog 24 #[.pointer (some ⟨r, 0, none⟩)] w fun e w' => ∃ u, e = .returned u ∧ Sl w' 3 1 u (ready s).length (nats (ready s)) ∧ (∀ g, u.ownBlock = some g → w.heap.size ≤ g) ∧ Only [] w w' := by
  obtain ⟨j3, si, sz0, sz1, sz2⟩ := info_parts info3
  have hn := hw.n
  obtain ⟨ta, cap, htv, _⟩ := h.tv_
  subst htv
  have c0 := h.rc.cellv (k := 0) (by omega) rfl
  have hlt := h.lt
  have H := Lib.hid h
  have HSIM := Lib.hid hsim
  have HWI := Lib.hid hwi
  clear h hsim hwi
  go_enter Try.func24, Try.ntmps24
  go_wp2
  go_loopw [3, 4] (fun u z wr => ∃ k : Nat, k ≤ s.n ∧ z = .int .i64 k ∧ Hid (Sl wr 3 1 u (readyTo s k).length (nats (readyTo s k))) ∧ Hid (∀ g, u.ownBlock = some g → w.heap.size ≤ g) ∧ Hid (Only [] w wr)) (fun _ z _ => s.n - (intOf z).toNat)
  case atStart => exact ⟨0, Nat.zero_le _, rfl, Lib.hid (Sl.nil _ _ _), Lib.hid (fun g hg => by simp [Value.ownBlock] at hg), Lib.hid (Only.refl _ _)⟩
  case round =>
    obtain ⟨k, hk, rfl, HS, HF, HO⟩ := hrel
    have H1 := Lib.hid (H.out.only0 HO.out).1
    have hlt1 := H1.out.lt
    clear hlt
    by_cases hkl : k < s.n
    · have hkz : (k : Int) < (s.n : Int) := by omega
      obtain ⟨cap2, he, c1⟩ := H1.out.tcell (by omega)
      injection he with he1 _ he3
      subst he1
      subst he3
      obtain ⟨ha, hs⟩ := HSIM.out k hkl
      obtain ⟨k0, k1, k2, k3, k4, k5, hl, hf⟩ := H1.out.cells hkl
      clear c0 k0 k1 k2 k3 k5 hf
      have HLn := readyTo_len s k
      by_cases h0 : (raw k).how = 0
      · obtain ⟨hd, hp, hat⟩ := hs.live h0
        have hwt := hw.wait k hkl
        have hok := hw.acts k hkl (s.ts k).act (by unfold T.act; rw [List.getD_eq_getElem?_getD, List.getElem?_eq_getElem hp]; exact List.getElem_mem hp)
        have hk3 : (s.ts k).wait ≠ 0 → (s.ts k).act.kind = 3 := fun h => (HWI.out.wt k hkl h).2.2
        have hact : (acts k)[(s.ts k).pc]'(by rw [ha]; exact hp) = (s.ts k).act := by
          unfold T.act
          rw [List.getD_eq_getElem?_getD, List.getElem?_eq_getElem hp]
          show _ = (s.ts k).acts[(s.ts k).pc]
          congr 1
        have HY := Lib.hid (why_ok H1.out hkl (by rw [ha]; exact hp) hat hact hok (by rw [hs.wait]; exact hwt) (by rw [hs.wait]; exact hk3))
        rw [hs.wait] at HY
        have HH := Lib.hid (how_why HWI.out hd hp hwt hk3)
        rw [h0] at k4
        clear hok hact hwt hk3 hat hd hp ha hs
        by_cases hy : whyM s (s.ts k).act (s.ts k).wait = 0
        · rw [hy] at HY
          have HE := Lib.hid (show readyTo s (k + 1) = readyTo s k ++ [k] by rw [readyTo_succ, if_pos (by rw [HH.out, if_pos hy])])
          clear HH hy
          go_wp2_with fail
          refine HY.out.mono ?_
          clear HY k4 c1
          rintro e w1 ⟨rfl, hO⟩
          have HO1 := Lib.hid (HO.out.trans hO)
          have HS1 := Lib.hid (HS.out.only hO (by simp))
          clear hO
          go_wp2_with (at_builtin; refine wpList_append_one (news := [.int .i64 (k : Nat)]) rfl (.tmp 29) (.tmp 31) 23 rfl 3 j3 _ 1 8 Try.underlying23 si sz0 sz1 sz2 rfl (by decide) rfl (HS1.out.alloc _) rfl (Blk.new _ _ _) rfl (by simp [Value.oneCell']) (by unfold maxLen; omega) (by omega) ?_)
          intro v2 w2 hS2 hg2 hat2
          have HS2 : Hid (Sl w2 3 1 v2 (readyTo s (k + 1)).length (nats (readyTo s (k + 1)))) := Lib.hid (by rw [HE.out, nats_append, List.length_append]; exact hS2)
          have HF2 := Lib.hid (own_fresh HF.out (hat2.imp (fun e => e) (fun e => by first | exact e | (rw [e]; simp))) (show w.heap.size ≤ w1.heap.size + 1 by have := HO1.out.size; omega))
          have HO2 := Lib.hid ((HO1.out.alloc (.cells #[.int .i64 (k : Nat)] 3)).grown hg2 (fun k hk => .inr (HF.out k hk)))
          clear hS2 hg2 hat2
          go_wp2
          go_roundw
          case measure => simp [intOf]; omega
          case rel => exact ⟨k + 1, by omega, by go_num, HS2, HF2, HO2⟩
        · have hyz : (whyM s (s.ts k).act (s.ts k).wait == 0) = false := by simpa using hy
          have HE := Lib.hid (show readyTo s (k + 1) = readyTo s k by
            rw [readyTo_succ, if_neg (by
              rw [HH.out, if_neg hy]
              intro e
              unfold whyM at e
              repeat' (first | (split at e) | omega)), List.append_nil])
          clear HH hy
          generalize whyM s (s.ts k).act (s.ts k).wait = yv at *
          go_wp2_with fail
          refine HY.out.mono ?_
          clear HY k4 c1
          rintro e w1 ⟨rfl, hO⟩
          have HO1 := Lib.hid (HO.out.trans hO)
          have HS1 := Lib.hid (HS.out.only hO (by simp))
          clear hO
          go_wp2
          go_roundw
          case measure => simp [intOf]; omega
          case rel => exact ⟨k + 1, by omega, by go_num, by rw [HE.out]; exact HS1, HF, HO1⟩
      · have hne := hs.dead (s := s) h0
        have HE := Lib.hid (show readyTo s (k + 1) = readyTo s k by rw [readyTo_succ, if_neg hne, List.append_nil])
        have h0z : ((raw k).how == 0) = false := by simpa using h0
        clear hne h0 ha hs
        generalize (raw k).how = hv at *
        go_wp2
        go_roundw
        case measure => simp [intOf]; omega
        case rel => exact ⟨k + 1, by omega, by go_num, by rw [HE.out]; exact HS, HF, HO⟩
    · obtain rfl : k = s.n := by omega
      have c1 := H1.out.rc.cellv (k := 0) (by omega) rfl
      go_wp2
      go_ret
      exact ⟨_, rfl, HS.out, HF.out, HO.out⟩
end
set_option maxRecDepth 100000 in
set_option maxHeartbeats 3200000 in
theorem pick_yes {w : World} {u : Value} {l : List Nat} (x : Nat) (last : Int) (hu : Sl w 3 1 u l.length (nats l)) (hl : 0 < l.length) :
    Calls Try.prog 25 #[u, iv x, iv last] w fun e w' => e = .returned (iv (l.getD (x % l.length) 0 : Nat)) ∧ w' = w := by
  obtain ⟨g, o, c, hv, hg, _, _, hcc, _⟩ := hu.form hl
  subst hv
  have hlz : ¬ (l.length : Int) = 0 := by omega
  have hm : x % l.length < l.length := Nat.mod_lt _ hl
  have cm := (hcc (x % l.length) (by omega)).trans (nats_at hm)
  have hmz : (x : Int) % (l.length : Int) < (l.length : Int) := by omega
  have e0 : l.getD (x % l.length) 0 = l[x % l.length] := by rw [List.getD_eq_getElem?_getD, List.getElem?_eq_getElem hm]; rfl
  rw [e0]
  clear hcc hu e0
  go_enter Try.func25, Try.ntmps25
  go_wp2
  exact bodyPost_ret (results_tmp rfl _ _ _) rfl ⟨rfl, rfl⟩
set_option maxRecDepth 100000 in
set_option maxHeartbeats 3200000 in
theorem pick_no {w : World} {u : Value} {l : List Nat} (last : Int) (hu : Sl w 3 1 u l.length (nats l)) (hl : 0 < l.length) (hl2 : l.length ≤ 16) :
    Calls Try.prog 25 #[u, iv (-1), iv last] w fun e w' => e = .returned (iv ((match l.find? (fun (i : Nat) => decide (last < (i : Int))) with | some i => i | none => l.getD 0 0 : Nat))) ∧ w' = w := by
  obtain ⟨g, o, c, hv, hg, _, _, hcc, _⟩ := hu.form hl
  subst hv
  obtain ⟨y0, hy0⟩ : ∃ y0 : Nat, y0 = (match l.find? (fun (i : Nat) => decide (last < (i : Int))) with | some i => i | none => l.getD 0 0) := ⟨_, rfl⟩
  rw [← hy0]
  have HN := Lib.hid hy0
  clear hy0
  go_enter Try.func25, Try.ntmps25
  go_wp2
  go_loopw [7] (fun z wr => ∃ k : Nat, k ≤ l.length ∧ z = .int .i64 k ∧ Hid (wr = w) ∧ Hid (∀ i (h : i < l.length), i < k → ¬ last < (l[i] : Int))) (fun z _ => l.length - (intOf z).toNat)
  case atStart => exact ⟨0, Nat.zero_le _, rfl, Lib.hid rfl, Lib.hid (fun i _ h => by omega)⟩
  case round =>
    obtain ⟨k, hk2, rfl, HW, HB⟩ := hrel
    obtain rfl := HW.out
    by_cases hkl : k < l.length
    · have hklz : (k : Int) < (l.length : Int) := by omega
      have cm := (hcc k (by omega)).trans (nats_at hkl)
      by_cases hlt2 : last < (l[k] : Int)
      · have HR := Lib.hid (show y0 = l[k] by
          rw [HN.out]
          have : l.find? (fun (i : Nat) => decide (last < (i : Int))) = some l[k] := by
            rw [List.find?_eq_some_iff_getElem]
            exact ⟨by simpa using hlt2, k, hkl, rfl, fun j hj => by simpa using HB.out j (by omega) hj⟩
          rw [this])
        clear HN HB
        generalize l[k] = y at *
        clear hcc
        go_wp2
        refine bodyPost_ret (results_tmp rfl _ _ _) rfl ⟨?_, rfl⟩
        rw [HR.out]; rfl
      · have HB2 := Lib.hid (show ∀ i (h : i < l.length), i < k + 1 → ¬ last < (l[i] : Int) from fun i hi hik => by
          rcases Nat.lt_succ_iff_lt_or_eq.1 hik with h1 | h1
          · exact HB.out i hi h1
          · subst h1; exact hlt2)
        have hge : (l[k] : Int) ≤ last := by omega
        have hgd : decide (last < (l[k] : Int)) = false := decide_eq_false hlt2
        generalize hy : l[k] = y at *
        clear hy hlt2 hcc
        go_wp2
        go_roundw
        case measure => simp [intOf]; omega
        case rel => exact ⟨k + 1, by omega, by go_num, Lib.hid (by trivial), HB2⟩
    · obtain rfl : k = l.length := by omega
      have cm := (hcc 0 (by omega)).trans (nats_at hl)
      have HR := Lib.hid (show y0 = l[0] by
        rw [HN.out]
        have : l.find? (fun (i : Nat) => decide (last < (i : Int))) = none := by
          rw [List.find?_eq_none]
          intro x hx
          obtain ⟨i, hi, rfl⟩ := List.getElem_of_mem hx
          simpa using HB.out i hi hi
        rw [this]
        show l.getD 0 0 = _
        rw [List.getD_eq_getElem?_getD, List.getElem?_eq_getElem hl]; rfl)
      have hlz : (0 : Int) < (l.length : Int) := by omega
      rw [Nat.add_zero] at cm
      clear HN HB
      generalize l[0] = y at *
      clear hcc
      go_wp2
      refine bodyPost_ret (results_tmp rfl _ _ _) rfl ⟨?_, rfl⟩
      rw [HR.out]; rfl
end Go.Proofs.Ytompelilflckkaa
/-
  The document's own run: a wait.
-/
namespace Go.Proofs.Ytompelilflckkaa
open Go.RowKit Go.Fl

section
variable {w : World} {base r g o : Nat} {f : Nat → Value} {tv : Value} {vs : Nat → Value} {acts : Nat → List A} {raw : Nat → RT} {s : S} {i x y : Nat} {n : Int}
theorem R2.ccell (h : R2 w base r g o f tv vs acts raw s) {k : Nat} (hk : k < 4) : ∃ a c, f (5 + k) = .slice a (s.conds k).length c ∧ w.cell? ⟨r, 5 + k, none⟩ = some (.slice a (s.conds k).length c) ∧ Sl w 3 1 (.slice a (s.conds k).length c) (s.conds k).length (nats (s.conds k)) := by
  have hS := h.rc.row (k := 5 + k) (by omega) (spec2_cond hk)
  obtain ⟨a, c, hv, _, _⟩ := hS.shape
  exact ⟨a, c, hv, by rw [← hv]; exact h.rc.cell (by omega), by rw [← hv]; exact hS⟩
set_option maxRecDepth 100000 in
set_option maxHeartbeats 3200000 in
theorem wait2_two (h : R2 w base r g o f tv vs acts raw s) (hn16 : s.n ≤ 16) (hi : i < s.n) (hy : y < 4) (hw0 : (raw i).wait = 2) :
    Calls Try.prog 38 #[.pointer (some ⟨r, 0, none⟩), iv i, .agg #[iv 3, iv x, iv y, iv n]] w fun e w' => e = .returned (.tuple #[.bool true, .bool true]) ∧
      (∃ f', R2 w' base r g o f' tv vs acts (upd raw i { raw i with wait := 0 }) (s.setLock y i)) ∧ BT base w w' := by
  obtain ⟨h1, b1⟩ := h.only0 ((Only.refl [] w).alloc (.cells #[iv 3, iv x, iv y, iv n] 47))
  have hbx : Blk (w.alloc (.cells #[iv 3, iv x, iv y, iv n] 47)) w.heap.size 47 #[iv 3, iv x, iv y, iv n] := Blk.new _ _ _
  have hnr : w.heap.size ≠ r := fun e => by have := h.lt; omega
  have hng : w.heap.size ≠ g := fun e => by have := (h.cells hi).2.2.2.2.2.2.1; omega
  have hyz : (y : Int) < 4 := by omega
  have hz : (i : Int) < (s.n : Int) := by omega
  have hiz : (i : Int) < 16 := by omega
  have hne := h.gne (by omega)
  obtain ⟨cap, htv, c0⟩ := h1.tcell (by omega)
  obtain ⟨k0, k1, k2, k3, k4, k5, hl, hf⟩ := h1.cells hi
  have c1 := h1.lcell hy
  have hfr := h1.frz
  have hlr := h1.lt
  clear htv k0 k1 k3 k4 k5
  obtain ⟨h2, b2⟩ := h1.lock hy (i : Int) ((i : Int) + 1) rfl
  obtain ⟨h3, b3⟩ := h2.only0 (Only.refl [] _).drew
  obtain ⟨h4, b4⟩ := h3.raw_ hi (j := 2) (u := iv 0) (x := { raw i with wait := 0 }) (by omega) (by omega) (fun cs p v hx => hx.wait_ 0)
  have H3 := Lib.hid h3
  have H4 := Lib.hid h4
  have B4 := Lib.hid (((b1.trans b2).trans b3).trans b4)
  rw [hw0] at k2
  clear h h1 h2 h3 h4 b1 b2 b3 b4 hbx
  go_enter Try.func38, Try.ntmps38
  go_wp2
  refine Lex.wp_region_text (by kernel_rfl) (by kernel_rfl) ?_
  go_wp2
  refine Lex.sq_done (by rfl) ?_
  generalize ((w.alloc (.cells #[.int .i64 3, .int .i64 x, .int .i64 y, .int .i64 n] 47)).setCell ⟨r, 1 + y, none⟩ (.int .i64 ((i : Int) + 1))).drew = w3 at *
  clear k2 hl hf hfr hlr c0 c1
  obtain ⟨k0, k1, k2, k3, k4, k5, hl, hf⟩ := H3.out.cells hi
  go_wp2
  exact bodyPost_ret (v := .tuple #[.bool true, .bool true]) (results2 rfl (res_tmp rfl) (res_tmp rfl)) rfl ⟨rfl, ⟨_, H4.out⟩, B4.out⟩
set_option maxRecDepth 100000 in
set_option maxHeartbeats 3200000 in
theorem wait2_no (h : R2 w base r g o f tv vs acts raw s) (hn16 : s.n ≤ 16) (hi : i < s.n) (hy : y < 4) (hw0 : (raw i).wait = 0) (hlk : ¬ s.locks y = i) :
    Calls Try.prog 38 #[.pointer (some ⟨r, 0, none⟩), iv i, .agg #[iv 3, iv x, iv y, iv n]] w fun e w' => e = .returned (.tuple #[.bool false, .bool false]) ∧ Only [] w w' := by
  obtain ⟨h1, b1⟩ := h.only0 ((Only.refl [] w).alloc (.cells #[iv 3, iv x, iv y, iv n] 47))
  have hbx : Blk (w.alloc (.cells #[iv 3, iv x, iv y, iv n] 47)) w.heap.size 47 #[iv 3, iv x, iv y, iv n] := Blk.new _ _ _
  have hnr : w.heap.size ≠ r := fun e => by have := h.lt; omega
  have hng : w.heap.size ≠ g := fun e => by have := (h.cells hi).2.2.2.2.2.2.1; omega
  have hyz : (y : Int) < 4 := by omega
  have hz : (i : Int) < (s.n : Int) := by omega
  have hiz : (i : Int) < 16 := by omega
  have hne := h.gne (by omega)
  obtain ⟨cap, htv, c0⟩ := h1.tcell (by omega)
  obtain ⟨k0, k1, k2, k3, k4, k5, hl, hf⟩ := h1.cells hi
  have c1 := h1.lcell hy
  have hfr := h1.frz
  have hlr := h1.lt
  clear htv k0 k1 k3 k4 k5
  rw [hw0] at k2
  have hlz : (s.locks y + 1 == (i : Int) + 1) = false := by rw [beq_eq_false_iff_ne]; omega
  generalize s.locks y + 1 = lv at *
  clear h h1 b1 hbx
  go_enter Try.func38, Try.ntmps38
  go_wp2
  go_quiet (fail)
  go_wp2
  exact bodyPost_ret (v := .tuple #[.bool false, .bool false]) (results2 rfl (res_tmp rfl) (res_tmp rfl)) rfl ⟨rfl, ((Only.refl [] w).alloc _).drewN _⟩
set_option maxRecDepth 100000 in
set_option maxHeartbeats 6400000 in
theorem wait2_one (h : R2 w base r g o f tv vs acts raw s) (hn16 : s.n ≤ 16) (hi : i < s.n) (hx : x < 4) (hy : y < 4) (hw0 : (raw i).wait = 0) (hlk : s.locks y = i) (hcl : (s.conds x).length ≤ 65536) :
    Calls Try.prog 38 #[.pointer (some ⟨r, 0, none⟩), iv i, .agg #[iv 3, iv x, iv y, iv n]] w fun e w' => e = .returned (.tuple #[.bool false, .bool true]) ∧
      (∃ f', R2 w' base r g o f' tv vs acts (upd raw i { raw i with wait := 1 }) ((s.setLock y (-1)).setCond x (s.conds x ++ [i]))) ∧ BT base w w' := by
  obtain ⟨j3, si, sz0, sz1, sz2⟩ := info_parts info3
  have hxz : (x : Int) < 4 := by omega
  obtain ⟨h1, b1⟩ := h.only0 ((Only.refl [] w).alloc (.cells #[iv 3, iv x, iv y, iv n] 47))
  have hbx : Blk (w.alloc (.cells #[iv 3, iv x, iv y, iv n] 47)) w.heap.size 47 #[iv 3, iv x, iv y, iv n] := Blk.new _ _ _
  have hnr : w.heap.size ≠ r := fun e => by have := h.lt; omega
  have hng : w.heap.size ≠ g := fun e => by have := (h.cells hi).2.2.2.2.2.2.1; omega
  have hyz : (y : Int) < 4 := by omega
  have hz : (i : Int) < (s.n : Int) := by omega
  have hiz : (i : Int) < 16 := by omega
  have hne := h.gne (by omega)
  obtain ⟨cap, htv, c0⟩ := h1.tcell (by omega)
  obtain ⟨k0, k1, k2, k3, k4, k5, hl, hf⟩ := h1.cells hi
  have c1 := h1.lcell hy
  have hfr := h1.frz
  have hlr := h1.lt
  clear htv k0 k1 k3 k4 k5
  rw [hw0] at k2
  rw [hlk] at c1
  have HH1 := Lib.hid h1
  have HB1 := Lib.hid b1
  have HX := Lib.hid hbx
  clear h h1 b1 hbx
  go_enter Try.func38, Try.ntmps38
  go_wp2
  go_quiet (fail)
  go_wp2
  have hO2 : Only [] (w.alloc (.cells #[iv 3, iv x, iv y, iv n] 47)) ((w.alloc (.cells #[iv 3, iv x, iv y, iv n] 47)).drewN nq) := (Only.refl _ _).drewN _
  obtain ⟨h2, b2⟩ := HH1.out.only0 hO2
  have HX2 := Lib.hid (HX.out.only hO2 (by simp))
  have HB2 := Lib.hid (HB1.out.trans b2)
  clear hO2 b2 HH1 HB1 HX
  have HH2 := Lib.hid h2
  clear h2 c0 c1 k2 hl hf hfr hlr
  generalize (w.alloc (.cells #[.int .i64 3, .int .i64 x, .int .i64 y, .int .i64 n] 47)).drewN nq = w2 at *
  have c1 := HH2.out.lcell hy
  have hfr := HH2.out.frz
  have hlr := HH2.out.lt
  obtain ⟨m1, _, m2⟩ := HX2.out.facts
  refine Lex.wp_region_text (by kernel_rfl) (by kernel_rfl) ?_
  go_wp2
  refine Lex.sq_done (by rfl) ?_
  obtain ⟨h3, b3⟩ := HH2.out.lock hy (-1) 0 (by omega)
  obtain ⟨h4, b4⟩ := h3.only0 (Only.refl [] _).drew
  have HX4 := Lib.hid ((HX2.out.far (p := ⟨r, 1 + y, none⟩) hnr (iv 0)).drew)
  have HB4 := Lib.hid ((HB2.out.trans b3).trans b4)
  have HH4 := Lib.hid h4
  clear h3 h4 b3 b4 c1 hfr hlr m1 m2 HH2 HB2 HX2
  generalize (w2.setCell ⟨r, 1 + y, none⟩ (.int .i64 0)).drew = w4 at *
  obtain ⟨k0, k1, k2, k3, k4, k5, hl, hf⟩ := HH4.out.cells hi
  obtain ⟨h5, b5⟩ := HH4.out.raw_ hi (j := 2) (u := iv 1) (x := { raw i with wait := 1 }) (by omega) (by omega) (fun cs p v hx => hx.wait_ 1)
  have HX3 := Lib.hid (HX4.out.far (p := ⟨g, o + i * 6 + 2, none⟩) hng (iv 1))
  have hcx3 := HX3.out.cell
  obtain ⟨ca, cc2, hcv, cc, hS⟩ := h5.ccell (k := x) hx
  change _ = Value.slice ca (s.conds x).length cc2 at hcv
  change _ = some (Value.slice ca (s.conds x).length cc2) at cc
  change Sl _ 3 1 (.slice ca (s.conds x).length cc2) (s.conds x).length (nats (s.conds x)) at hS
  have hfr3 := h5.frz
  have hlr := h5.lt
  clear k0 k1 k3 k4 k5
  go_wp2
  generalize w4.setCell ⟨g, o + i * 6 + 2, none⟩ (.int .i64 1) = w3 at *
  have HS := Lib.hid hS
  have HCV := Lib.hid hcv
  have h3 := h5
  have HG : Hid (∀ u, (((w3.alloc (.cells u 3)).drew).cell? ⟨w.heap.size, 1, none⟩ = some (iv x) ∧ ((w3.alloc (.cells u 3)).drew).cell? ⟨r, 5 + x, none⟩ = some (.slice ca (s.conds x).length cc2))) := Lib.hid fun u => by
    have hb := (HX3.out.alloc (.cells u 3)).drew.cell 1
    have hc := (h3.only0 ((Only.refl [] w3).alloc (.cells u 3))).1.rc.cell (k := 5 + x) (by omega)
    exact ⟨hb, hc.trans (congrArg some HCV.out)⟩
  have hga : ∀ u, (w3.alloc (.cells u 3)).cell? ⟨w.heap.size, 1, none⟩ = some (iv x) := fun u => (HG.out u).1
  have hgb : ∀ u, (w3.alloc (.cells u 3)).cell? ⟨r, 5 + x, none⟩ = some (.slice ca (s.conds x).length cc2) := fun u => (HG.out u).2
  clear hS hcv k2 hl hf
  go_region_law (first
      | (refine step_append_sls rfl (.tmp 59) (.tmp 61) 23 rfl 3 j3 _ 1 8 Try.underlying23 si sz0 sz1 sz2 rfl (by decide) rfl (HS.out.alloc _) rfl (sl_one (Blk.new _ _ _) rfl) (by simp [Value.oneCell']) (by unfold maxLen; omega) (by omega) ?_
         intro v4 w4 hS4 hg4 hat4
         have hG4 : (w3.alloc (.cells #[iv i] 3)).drew.grownBy w4 (Value.slice ca (s.conds x).length cc2).ownBlock := hg4
         have hA4 : v4.ownBlock = (Value.slice ca (s.conds x).length cc2).ownBlock ∨ v4.ownBlock = some (w3.heap.size + 1) := hat4.imp (fun e => e) (fun e => by rw [e]; simp)
         clear hg4 hat4
         obtain ⟨va, vc, hv4, _, _⟩ := hS4.shape
         subst hv4
         have h4 := (h3.only0 ((Only.refl [] w3).alloc (.cells #[iv i] 3)).drew).1
         have HR4 := Lib.hid (h4.cond (k := x) hx (l := s.conds x ++ [i]) (by rw [nats_append, List.length_append]; exact hS4) (by rw [HCV.out]; exact hG4) (fun g hg => by
           rw [HCV.out]
           rcases hA4 with e | e
           · exact .inl (e ▸ hg)
           · rw [e] at hg; injection hg with hg; right; rw [← hg]; simp))
         have HK4 : w4.cell? ⟨w.heap.size, 1, none⟩ = some (iv x) ∧ w4.cell? ⟨r, 5 + x, none⟩ = some (.slice ca (s.conds x).length cc2) := by
           refine ⟨?_, ?_⟩
           · refine (Blk.grown (HX3.out.alloc (.cells #[iv i] 3)).drew hG4 fun e => ?_).cell 1
             obtain ⟨cur, hb⟩ := HS.out.ty e
             have := hb.ty_eq HX3.out; cases this
           · exact ((HR4.out.2.2.cell (5 + x)).trans (cellsN_get (by omega))).trans (congrArg some HCV.out)
         have HK5 : ∀ u, (w4.setCell ⟨r, 5 + x, none⟩ u).cell? ⟨w.heap.size, 1, none⟩ = some (iv x) := fun u => (World.cell?_setCell_other (w := w4) (a := ⟨r, 5 + x, none⟩) (b := ⟨w.heap.size, 1, none⟩) (v := u) (fun e => by injection e with e; exact hnr e.symm)).trans HK4.1
         have hfr4 := HR4.out.2.2.frozen
         have hlr4 := HR4.out.2.2.lt
         clear hS4))
  all_goals
    go_wp2
    exact bodyPost_ret (v := .tuple #[.bool false, .bool true]) (results2 rfl (res_tmp rfl) (res_tmp rfl)) rfl ⟨rfl, ⟨_, HR4.out.1⟩, ((HB4.out.trans b5).trans (h3.only0 ((Only.refl [] w3).alloc (.cells #[iv i] 3)).drew).2).trans HR4.out.2.1⟩
end
end Go.Proofs.Ytompelilflckkaa
/-
  The document's own run: those that wait for a condition wake.
-/
namespace Go.Proofs.Ytompelilflckkaa
open Go.RowKit Go.Fl

/-- Those wake. -/
def wakeRaw (raw : Nat → RT) : List Nat → Nat → RT
  | [] => raw
  | i :: l => wakeRaw (upd raw i { raw i with wait := 2 }) l
theorem wakeRaw_snoc (raw : Nat → RT) (l : List Nat) (i : Nat) : wakeRaw raw (l ++ [i]) = upd (wakeRaw raw l) i { wakeRaw raw l i with wait := 2 } := by
  induction l generalizing raw with
  | nil => rfl
  | cons j l ih => exact ih _
section
variable {w : World} {base r g o : Nat} {f : Nat → Value} {tv : Value} {vs : Nat → Value} {acts : Nat → List A} {raw : Nat → RT} {s : S}
/-- Of a run only these count. -/
theorem R2.congr {s' : S} (h : R2 w base r g o f tv vs acts raw s) (e1 : s'.n = s.n) (e2 : s'.room = s.room) (e3 : s'.locks = s.locks) (e4 : s'.conds = s.conds) (e5 : s'.queues = s.queues) (e6 : s'.regs = s.regs) (e7 : s'.last = s.last) : R2 w base r g o f tv vs acts raw s' := by
  have e : spec2 tv s' = spec2 tv s := by
    funext k
    unfold spec2
    rw [e2, e3, e4, e5, e6, e7]
  exact ⟨by rw [e]; exact h.rc, by rw [e1]; exact h.tv_, by rw [e1]; exact h.tk, by rw [e1]; exact h.gb, by rw [e1]; exact h.ac⟩
set_option maxRecDepth 100000 in
set_option maxHeartbeats 6400000 in
theorem wake2_ok {c k : Nat} (h : R2 w base r g o f tv vs acts raw s) (hc : c < 4) (hk : k ≤ 16) (hl16 : (s.conds c).length ≤ 65536) (hin : ∀ i ∈ s.conds c, i < s.n) (hn16 : s.n ≤ 16) :
    Calls Try.prog 39 #[.pointer (some ⟨r, 0, none⟩), iv c, iv k] w fun e w' => e = .returned (.tuple #[]) ∧ (∃ f', R2 w' base r g o f' tv vs acts (wakeRaw raw ((s.conds c).take k)) (s.setCond c ((s.conds c).drop k))) ∧ BT base w w' := by
  obtain ⟨j3, si, sz0, sz1, sz2⟩ := info_parts info3
  have hcz : (c : Int) < 4 := by omega
  have H := Lib.hid h
  have HIN := Lib.hid hin
  clear h hin
  go_enter Try.func39, Try.ntmps39
  go_wp2
  go_loopw [2] (fun z wr => ∃ j : Nat, j ≤ k ∧ j ≤ (s.conds c).length ∧ z = .int .i64 ((k - j : Nat) : Int) ∧ Hid (∃ f', R2 wr base r g o f' tv vs acts (wakeRaw raw ((s.conds c).take j)) (s.setCond c ((s.conds c).drop j))) ∧ Hid (BT base w wr)) (fun z _ => (intOf z).toNat)
  case atStart => exact ⟨0, Nat.zero_le _, Nat.zero_le _, rfl, Lib.hid ⟨f, by
      rw [List.take_zero, List.drop_zero]
      exact H.out.congr rfl rfl rfl (by
        funext x
        show upd s.conds c (s.conds c) x = _
        rw [upd_self]) rfl rfl rfl⟩, Lib.hid (BT.refl _ _)⟩
  case round =>
    obtain ⟨w2, hwo⟩ : ∃ x : World, x = wr := ⟨_, rfl⟩
    subst hwo
    obtain ⟨j, hj, hjl, rfl, HR, HB⟩ := hrel
    obtain ⟨f2, h2⟩ := HR.out
    clear HR
    have hcd : (s.setCond c ((s.conds c).drop j)).conds c = (s.conds c).drop j := upd_same _ _ _
    obtain ⟨ca, cc2, hcv, cc, hS⟩ := h2.ccell hc
    rw [hcd, List.length_drop] at hcv cc hS
    have hlr := h2.lt
    have hfr := h2.frz
    by_cases hjk : j < k
    · have hjkz : (0 : Int) < ((k - j : Nat) : Int) := by omega
      by_cases hjc : j < (s.conds c).length
      · obtain ⟨id, hid⟩ : ∃ id, (s.conds c)[j] = id := ⟨_, rfl⟩
        have hidn : id < s.n := HIN.out id (hid ▸ List.getElem_mem hjc)
        obtain ⟨gl, ol, cl, hv, hgl, hcl, _, hcc, _⟩ := hS.form (by omega)
        injection hv with e1 _ e3
        subst e1
        subst e3
        have cx : w2.cell? ⟨gl, ol, none⟩ = some (iv (id : Nat)) := (hcc 0 (by omega)).trans (by
          rw [nats_at (by rw [List.length_drop]; omega), List.getElem_drop]
          simp only [Nat.add_zero, hid])
        obtain ⟨cap, htv, c0⟩ := h2.tcell (by show 0 < s.n; omega)
        change _ = some (Value.slice (some ⟨g, o, none⟩) s.n cap) at c0
        obtain ⟨k0, k1, k2, k3, k4, k5, hl, hf⟩ := h2.cells (i := id) hidn
        obtain ⟨h3, b3⟩ := h2.raw_ (i := id) hidn (j := 2) (u := iv 2) (x := { wakeRaw raw ((s.conds c).take j) id with wait := 2 }) (by omega) (by omega) (fun cs p v hx => hx.wait_ 2)
        obtain ⟨h4, b4⟩ := h3.only0 (Only.refl [] _).drew
        have hraw : upd (wakeRaw raw ((s.conds c).take j)) id { wakeRaw raw ((s.conds c).take j) id with wait := 2 } = wakeRaw raw ((s.conds c).take (j + 1)) := by
          rw [List.take_succ_eq_append_getElem hjc, hid, wakeRaw_snoc]
        rw [hraw] at h4
        have H4 := Lib.hid h4
        have HB4 := Lib.hid ((HB.out.trans b3).trans b4)
        have hidz : (id : Int) < (s.n : Int) := by omega
        have hlenz : (0 : Int) < (((s.conds c).length - j : Nat) : Int) := by omega
        have hlen1 : 0 < (s.conds c).length - j := by omega
        have HCV := Lib.hid hcv
        have HF : Hid (f2 (5 + c) = f2 (5 + c)) := Lib.hid rfl
        clear h2 h3 h4 b3 b4 hraw hcc hS htv k0 k1 k3 k4 k5 hid hcd hcv HB
        go_wp2
        refine Lex.wp_region_text (by kernel_rfl) (by kernel_rfl) ?_
        go_wp2
        refine Lex.sq_done (by rfl) ?_
        generalize (w2.setCell ⟨g, o + id * 6 + 2, none⟩ (.int .i64 2)).drew = w3 at *
        clear cx c0 k2 hl hf cc hlr hfr hgl
        have hlr := H4.out.lt
        have hfr := H4.out.frz
        have cc : w3.cell? ⟨r, 5 + c, none⟩ = some (.slice (some ⟨gl, ol, none⟩) ((s.conds c).length - j) cc2) := (H4.out.rc.cell (k := 5 + c) (by omega)).trans (congrArg some HCV.out)
        have hS3 : Sl w3 3 1 (.slice (some ⟨gl, ol, none⟩) ((s.conds c).length - j) cc2) ((s.conds c).length - j) (nats ((s.conds c).drop j)) := by
          have := H4.out.rc.row (k := 5 + c) (by omega) (spec2_cond hc)
          rw [show (s.setCond c ((s.conds c).drop j)).conds c = (s.conds c).drop j from upd_same _ _ _, List.length_drop, HCV.out] at this
          exact this
        have HC := hS3.cut (k := 1) (by omega)
        rw [show (nats ((s.conds c).drop j)).drop (1 * 1) = nats ((s.conds c).drop (j + 1)) by
          unfold nats
          rw [← List.map_drop, List.drop_drop]] at HC
        have hcl1 : (1 : Int) ≤ (((s.conds c).length - j : Nat) : Int) := by omega
        have hM : (s.conds c).length - j - 1 = ((s.conds c).drop (j + 1)).length := by rw [List.length_drop]; omega
        have hks : ((k - j : Nat) : Int) - 1 = ((k - (j + 1) : Nat) : Int) := by omega
        obtain ⟨N, hN⟩ : ∃ N, N = (k - j : Nat) := ⟨_, rfl⟩
        have hE : ∀ d, (s.setCond c d).setCond c ((s.conds c).drop (j + 1)) = (s.setCond c ((s.conds c).drop j)).setCond c ((s.conds c).drop (j + 1)) ∨ True := fun _ => .inr trivial
        clear hE hN N
        by_cases hcc1 : cc2 = 1
        · have hM1 : (s.conds c).length - j = 1 := by omega
          rw [if_pos hcc1] at HC
          rw [hcc1] at HC cc HCV
          have hHC : Sl w3.drew 3 1 (.slice (some ⟨gl, ol, none⟩) ((s.conds c).length - j - 1) 0) ((s.conds c).length - j - 1) (nats ((s.conds c).drop (j + 1))) := HC.drew
          have HCD := Lib.hid hHC
          clear HC hHC hM1
          go_wp2
          refine Lex.wp_region_text (by kernel_rfl) (by kernel_rfl) ?_
          go_wp2_with (at_builtin; refine wpList_append_sls rfl (.const (.slice none 0 0)) (.tmp 40) 23 rfl 3 j3 _ 1 8 Try.underlying23 si sz0 sz1 sz2 rfl (by decide) rfl (Sl.nil _ _ _) rfl HCD.out (fun u hu => by obtain ⟨y, _, rfl⟩ := List.mem_map.1 hu; rfl) (by unfold maxLen; omega) (by omega) ?_)
          intro v5 w5 hS5 hg5 hat5
          have hS5 : Sl w5 3 1 v5 ((s.conds c).drop (j + 1)).length (nats ((s.conds c).drop (j + 1))) := by
            rw [← hM]
            first
              | exact hS5
              | (have := hS5; rw [Nat.zero_add, List.nil_append] at this; exact this)
          obtain ⟨va, vc, hv5, _, _⟩ := hS5.shape
          have hg5b : w3.drew.grownBy w5 (f2 (5 + c)).ownBlock := ⟨hg5.os, hg5.tape, hg5.output, hg5.size, fun k hk _ => hg5.block k hk (by simp [Value.ownBlock])⟩
          obtain ⟨h6, b6, hk6⟩ := (H4.out.only0 (Only.refl [] _).drew).1.cond (k := c) hc (v := v5) (l := (s.conds c).drop (j + 1)) hS5 hg5b (fun g hg => .inr (by
            rcases hat5 with e | e
            · rw [e] at hg; cases hg
            · rw [e] at hg; injection hg with hg; rw [← hg]; exact Nat.le_refl _))
          rw [hv5] at h6 b6
          subst hv5
          have H7 : Hid (∃ f', R2 (w5.setCell ⟨r, 5 + c, none⟩ (.slice va ((s.conds c).length - j - 1) vc)) base r g o f' tv vs acts (wakeRaw raw ((s.conds c).take (j + 1))) (s.setCond c ((s.conds c).drop (j + 1)))) := Lib.hid ⟨_, R2.congr (s := (s.setCond c ((s.conds c).drop j)).setCond c ((s.conds c).drop (j + 1))) (by have := h6; rw [← hM] at this; exact this) rfl rfl rfl (by
            funext x
            show upd s.conds c ((s.conds c).drop (j + 1)) x = upd (upd s.conds c ((s.conds c).drop j)) c ((s.conds c).drop (j + 1)) x
            rw [upd_upd]) rfl rfl rfl⟩
          have B6 := Lib.hid ((HB4.out.trans (H4.out.only0 (Only.refl [] _).drew).2).trans b6)
          have B6' : Hid (BT base w (w5.setCell ⟨r, 5 + c, none⟩ (.slice va ((s.conds c).length - j - 1) vc))) := Lib.hid (by
            have := B6.out
            rw [← hM] at this
            exact this)
          have hfr5 := hk6.frozen
          have cc5 := (hk6.cell (5 + c)).trans (cellsN_get (by omega))
          have hlr5 := hk6.lt
          clear hS5 hg5 hg5b hat5 h6 b6 B6
          go_wp2
          refine Lex.sq_done (by rfl) ?_
          go_wp2
          go_roundw
          case measure => simp [intOf]; omega
          case rel => exact ⟨j + 1, by omega, by omega, by first | rfl | (rw [hks]; done) | go_num, H7, B6'⟩
        · rw [if_neg hcc1] at HC
          have hHC : Sl w3.drew 3 1 (.slice (some ⟨gl, ol + 1, none⟩) ((s.conds c).length - j - 1) (cc2 - 1)) ((s.conds c).length - j - 1) (nats ((s.conds c).drop (j + 1))) := HC.drew
          have HCD := Lib.hid hHC
          have hcz1 : ¬ cc2 - 1 = 0 := by omega
          clear HC hHC
          go_wp2
          refine Lex.wp_region_text (by kernel_rfl) (by kernel_rfl) ?_
          go_wp2_with (at_builtin; refine wpList_append_sls rfl (.const (.slice none 0 0)) (.tmp 40) 23 rfl 3 j3 _ 1 8 Try.underlying23 si sz0 sz1 sz2 rfl (by decide) rfl (Sl.nil _ _ _) rfl HCD.out (fun u hu => by obtain ⟨y, _, rfl⟩ := List.mem_map.1 hu; rfl) (by unfold maxLen; omega) (by omega) ?_)
          intro v5 w5 hS5 hg5 hat5
          have hS5 : Sl w5 3 1 v5 ((s.conds c).drop (j + 1)).length (nats ((s.conds c).drop (j + 1))) := by
            rw [← hM]
            first
              | exact hS5
              | (have := hS5; rw [Nat.zero_add, List.nil_append] at this; exact this)
          obtain ⟨va, vc, hv5, _, _⟩ := hS5.shape
          have hg5b : w3.drew.grownBy w5 (f2 (5 + c)).ownBlock := ⟨hg5.os, hg5.tape, hg5.output, hg5.size, fun k hk _ => hg5.block k hk (by simp [Value.ownBlock])⟩
          obtain ⟨h6, b6, hk6⟩ := (H4.out.only0 (Only.refl [] _).drew).1.cond (k := c) hc (v := v5) (l := (s.conds c).drop (j + 1)) hS5 hg5b (fun g hg => .inr (by
            rcases hat5 with e | e
            · rw [e] at hg; cases hg
            · rw [e] at hg; injection hg with hg; rw [← hg]; exact Nat.le_refl _))
          rw [hv5] at h6 b6
          subst hv5
          have H7 : Hid (∃ f', R2 (w5.setCell ⟨r, 5 + c, none⟩ (.slice va ((s.conds c).length - j - 1) vc)) base r g o f' tv vs acts (wakeRaw raw ((s.conds c).take (j + 1))) (s.setCond c ((s.conds c).drop (j + 1)))) := Lib.hid ⟨_, R2.congr (s := (s.setCond c ((s.conds c).drop j)).setCond c ((s.conds c).drop (j + 1))) (by have := h6; rw [← hM] at this; exact this) rfl rfl rfl (by
            funext x
            show upd s.conds c ((s.conds c).drop (j + 1)) x = upd (upd s.conds c ((s.conds c).drop j)) c ((s.conds c).drop (j + 1)) x
            rw [upd_upd]) rfl rfl rfl⟩
          have B6 := Lib.hid ((HB4.out.trans (H4.out.only0 (Only.refl [] _).drew).2).trans b6)
          have B6' : Hid (BT base w (w5.setCell ⟨r, 5 + c, none⟩ (.slice va ((s.conds c).length - j - 1) vc))) := Lib.hid (by
            have := B6.out
            rw [← hM] at this
            exact this)
          have hfr5 := hk6.frozen
          have cc5 := (hk6.cell (5 + c)).trans (cellsN_get (by omega))
          have hlr5 := hk6.lt
          clear hS5 hg5 hg5b hat5 h6 b6 B6
          go_wp2
          refine Lex.sq_done (by rfl) ?_
          go_wp2
          go_roundw
          case measure => simp [intOf]; omega
          case rel => exact ⟨j + 1, by omega, by omega, by first | rfl | (rw [hks]; done) | go_num, H7, B6'⟩
      · obtain rfl : j = (s.conds c).length := by omega
        rw [Nat.sub_self] at cc
        have H2 := Lib.hid h2
        clear hS hcv
        go_wp2
        go_end0
        refine ⟨rfl, ⟨f2, ?_⟩, HB.out⟩
        have := H2.out
        rw [List.take_of_length_le (Nat.le_refl _), List.drop_of_length_le (Nat.le_refl _)] at this
        rw [List.take_of_length_le (by omega), List.drop_of_length_le (by omega)]
        exact this
    · obtain rfl : j = k := by omega
      have H2 := Lib.hid h2
      have hkk : ((j - j : Nat) : Int) = 0 := by omega
      clear hS hcv
      go_wp2
      go_end0
      exact ⟨rfl, ⟨_, H2.out⟩, HB.out⟩
end
end Go.Proofs.Ytompelilflckkaa
