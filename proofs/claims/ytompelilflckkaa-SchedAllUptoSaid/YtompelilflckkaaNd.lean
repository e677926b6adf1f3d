/-
  The document's own run: who is ready behind some picks.
-/
import Derived.Test.YtompelilflckkaaMz
import Derived.Test.YtompelilflckkaaNa
import Derived.Test.YtompelilflckkaaNc
import Derived.Test.YtompelilflckkaaMe
import Derived.Test.YtompelilflckkaaMr
import Derived.Test.YtompelilflckkaaMs
set_option linter.unusedSimpArgs false
set_option linter.unusedVariables false
namespace Go.Proofs.Ytompelilflckkaa
open Go.RowKit Go.Fl

/-- A run under way. -/
structure RL (w1 wr : World) (r g o : Nat) (tv : Value) (vs : Nat → Value) (acts : List (List A)) (s : S) : Prop where
  it : ∃ f raw, R2 wr w1.heap.size r g o f tv vs (fun j => acts.getD j []) raw s ∧ ∀ j, j < s.n → acts.getD j [] = (s.ts j).acts ∧ Sim (s.ts j) (raw j)
  wi : WI s
  wf : WF s s.trace.length
  bl : Below w1.heap.size w1 wr
section
variable {w1 wr : World} {r g o : Nat} {tv : Value} {vs : Nat → Value} {acts : List (List A)} {s : S} {i : Nat}
theorem RL.only0 {w2 : World} (h : RL w1 wr r g o tv vs acts s) (ho : Only [] wr w2) : RL w1 w2 r g o tv vs acts s := by
  obtain ⟨f, raw, h1, h2⟩ := h.it
  obtain ⟨h3, h4⟩ := h1.only0 ho
  exact ⟨⟨f, raw, h3, h2⟩, h.wi, h.wf, h.bl.trans h4.toBelow⟩
theorem RL.stepC (h : RL w1 wr r g o tv vs acts s) (hi : i < s.n) (hr : how s (s.ts i) = 3) (hL : s.trace.length ≤ 65536) :
    Calls Try.prog 26 #[.pointer (some ⟨r, 0, none⟩), iv i] wr fun e w' => e = .returned (.tuple #[]) ∧ RL w1 w' r g o tv vs acts (step s i) ∧ TF wr w' := by
  obtain ⟨f, raw, h1, h2⟩ := h.it
  refine (step2_ok h1 h.wf h.wi h2 hi hr hL).mono fun e w' => ?_
  rintro ⟨rfl, ⟨f', raw', h3, h4, h5⟩, h6⟩
  obtain ⟨g1, g2, g3⟩ := step_ok h.wf hi hr
  refine ⟨rfl, ⟨⟨f', raw', h3, h5⟩, h4, ?_, h.bl.trans h6.toBelow⟩, h6.tf⟩
  rw [g3, List.length_append]
  exact g1
theorem RL.readyC (h : RL w1 wr r g o tv vs acts s) :
    Calls Try.prog 24 #[.pointer (some ⟨r, 0, none⟩)] wr fun e w' => ∃ u, e = .returned u ∧ Sl w' 3 1 u (ready s).length (nats (ready s)) ∧ (∀ g, u.ownBlock = some g → w1.heap.size ≤ g) ∧ RL w1 w' r g o tv vs acts s := by
  obtain ⟨f, raw, h1, h2⟩ := h.it
  refine (ready2_ok h1 h.wf h.wi h2).mono fun e w' => ?_
  rintro ⟨u, rfl, hS, hF, hO⟩
  exact ⟨u, rfl, hS, fun g hg => Nat.le_trans h.bl.size (hF g hg), h.only0 hO⟩
theorem RL.lastcell (h : RL w1 wr r g o tv vs acts s) : wr.cell? ⟨r, 22, none⟩ = some (iv s.last) ∧ r < wr.heap.size := by
  obtain ⟨f, raw, h1, _⟩ := h.it
  exact ⟨h1.rc.cellv (by omega) spec2_last, h1.lt⟩
end
theorem wi0 (acts : List (List A)) (room : Int) : WI (begin_ acts room) :=
  ⟨fun k => by show (-1 : Int) ≤ -1; omega, fun i hi h => absurd rfl h, fun c i h => (by cases h), fun c => List.nodup_nil⟩
theorem sim0 (acts : List (List A)) (room : Int) (j : Nat) : Sim ((begin_ acts room).ts j) ⟨0, 0, -1, hw0 (acts.getD j []).length, 0⟩ := by
  refine ⟨rfl, rfl, rfl, ?_, .inl rfl⟩
  show hw0 (acts.getD j []).length = if false = true then 2 else if (acts.getD j []).length ≤ 0 then 1 else 0
  unfold hw0
  by_cases h : (acts.getD j []).length = 0
  · rw [if_pos h, if_neg (by simp), if_pos (by omega)]
  · rw [if_neg h, if_neg (by simp), if_neg (by omega)]
/-- Begun. -/
theorem beginC {w1 : World} {tv : Value} {acts : List (List A)} {room : Int} (h : TasksV w1.heap.size w1 tv acts) (hn : acts.length ≤ 16) (hwf : WF (begin_ acts room) 0) :
    Calls Try.prog 23 #[tv, iv room] w1 fun e w' => ∃ r g o tv2 vs, e = .returned (.pointer (some ⟨r, 0, none⟩)) ∧ RL w1 w' r g o tv2 vs acts (begin_ acts room) := by
  refine (begin2_ok h hn).mono fun e w' => ?_
  rintro ⟨r, g, o, f, tv2, vs, rfl, hR, hB⟩
  exact ⟨r, g, o, tv2, vs, rfl, ⟨f, _, hR, fun j _ => ⟨rfl, sim0 acts room j⟩⟩, wi0 acts room, hwf, hB⟩
set_option maxRecDepth 100000 in
set_option maxHeartbeats 6400000 in
theorem rready_ok {w : World} {tv pv : Value} {acts : List (List A)} {ps : List Int} (room : Int) (h : TasksV w.heap.size w tv acts) (hp : Row intv w pv ps) (hpb : ∀ g, pv.ownBlock = some g → g < w.heap.size) (hk : askedM acts room ps 0 = 0) :
    Calls Try.prog 18 #[tv, iv room, pv] w fun e w' => ∃ u, e = .returned (.tuple #[u, iv 0]) ∧ Sl w' 3 1 u (ready (all (ps.map Int.toNat) ps.length (begin_ acts room))).length (nats (ready (all (ps.map Int.toNat) ps.length (begin_ acts room)))) ∧ Only [] w w' := by
  have HA := Lib.hid (asked2_ok room h hp)
  obtain ⟨q1, q2, q3, q4, q5, q6, q7, q8, q9, q10⟩ := asked_zero hk
  rw [hk] at HA
  have HWF := Lib.hid (begin_wf q1 q2 q3 q8 q9 q10)
  have HPB := Lib.hid hpb
  have HT := Lib.hid h
  have HP := Lib.hid hp
  have HQ7 := Lib.hid q7
  obtain ⟨pa, pc, hpv, _, _, _⟩ := hp
  clear q7 q8 q9 q10 hpb h hk
  subst hpv
  go_enter Try.func18, Try.ntmps18
  go_wp2_with fail
  refine HA.out.mono ?_
  clear HA
  rintro e w1 ⟨rfl, hO1⟩
  have HO := Lib.hid hO1
  have hsz := hO1.size
  have HBG := Lib.hid (beginC (room := room) (HT.out.below (Below.of_only hO1 (Nat.le_refl _))).here (by omega) HWF.out)
  clear hO1 HT
  go_wp2_with fail
  refine HBG.out.mono ?_
  clear HBG
  rintro e w2 ⟨r, g, o, tv2, vs, rfl, hR⟩
  have HRD := Lib.hid hR.readyC
  clear hR
  go_wp2_with fail
  refine HRD.out.mono ?_
  clear HRD
  rintro e w3 ⟨u, rfl, hS, _, hR⟩
  have HS := Lib.hid hS
  have HR := Lib.hid hR
  clear hS hR
  go_wp2
  go_loopw [10, 11] (fun u z wr => ∃ (k : Nat) (s1 : S), k ≤ ps.length ∧ z = .int .i64 k ∧ s1.trace.length ≤ k ∧ (s1.trace.length < k → ready s1 = []) ∧ Hid (all (ps.map Int.toNat) (ps.length - k) s1 = all (ps.map Int.toNat) ps.length (begin_ acts room)) ∧ Hid (Sl wr 3 1 u (ready s1).length (nats (ready s1))) ∧ Hid (RL w1 wr r g o tv2 vs acts s1)) (fun _ z _ => ps.length - (intOf z).toNat)
  case atStart => exact ⟨0, begin_ acts room, Nat.zero_le _, rfl, Nat.le_refl _, fun h => absurd h (Nat.not_lt_zero _), Lib.hid rfl, HS, HR⟩
  case round =>
    obtain ⟨w4, hwo⟩ : ∃ x : World, x = wr := ⟨_, rfl⟩
    subst hwo
    obtain ⟨k, s1, hk, rfl, ht, ht2, HE, HS1, HR1⟩ := hrel
    clear HS HR
    obtain ⟨ua, uc, hu, _, _⟩ := HS1.out.shape
    subst hu
    by_cases hrd : ready s1 = []
    · have HF := Lib.hid (all_stop (picks := ps.map Int.toNat) (k := ps.length - k) hrd)
      have hl0 : (ready s1).length = 0 := by rw [hrd]; rfl
      have HRB := Lib.hid HR1.out.bl
      have HSF : Hid (Sl w4 3 1 (.slice ua (ready s1).length uc) (ready (all (ps.map Int.toNat) ps.length (begin_ acts room))).length (nats (ready (all (ps.map Int.toNat) ps.length (begin_ acts room))))) := Lib.hid (by rw [← HE.out, HF.out]; exact HS1.out)
      clear HF HS1 HE ht ht2
      rw [hl0] at HSF ⊢
      clear hl0 hrd
      by_cases hkl : k < ps.length
      · have hkz : (k : Int) < (ps.length : Int) := by omega
        go_wp2
        exact bodyPost_ret (v := .tuple #[.slice ua 0 uc, iv 0]) (results2 rfl (res_tmp rfl) (res_tmp rfl)) rfl ⟨_, rfl, HSF.out, HO.out.trans (Only.of_below HRB.out [])⟩
      · have hkz : ¬ (k : Int) < (ps.length : Int) := by omega
        go_wp2
        exact bodyPost_ret (v := .tuple #[.slice ua 0 uc, iv 0]) (results2 rfl (res_tmp rfl) (res_tmp rfl)) rfl ⟨_, rfl, HSF.out, HO.out.trans (Only.of_below HRB.out [])⟩
    · by_cases hkl : k < ps.length
      · have hkz : (k : Int) < (ps.length : Int) := by omega
        have htk : s1.trace.length = k := by
          by_cases e : s1.trace.length < k
          · exact absurd (ht2 e) hrd
          · omega
        have hl : 0 < (ready s1).length := List.length_pos_iff.2 hrd
        have hlz : (0 : Int) < ((ready s1).length : Int) := by omega
        obtain ⟨pa', pc', hpe, _, _, hpcell⟩ := HP.out
        obtain ⟨gp, op, hga, hgp, hpx⟩ := hpcell (by omega)
        injection hpe with hpe1 _ hpe3
        subst hpe1
        subst hpe3
        subst hga
        obtain ⟨x, hx⟩ := nat_of (HQ7.out _ (List.getElem_mem hkl))
        have cp : w4.cell? ⟨gp, op + k, none⟩ = some (iv (x : Int)) := by
          rw [← hx]
          refine Eq.trans ?_ (hpx k hkl)
          refine (World.cell?_of_block (w := w1) (a := ⟨gp, op + k, none⟩) (HR1.out.bl.block gp (Nat.lt_of_lt_of_le hgp hsz))).trans ?_
          exact HO.out.cell (p := ⟨gp, op + k, none⟩) hgp (by simp)
        have hgp4 : gp < w4.heap.size := Nat.lt_of_lt_of_le hgp (Nat.le_trans hsz HR1.out.bl.size)
        obtain ⟨cl, hlr⟩ := HR1.out.lastcell
        have hnx : next s1 (ready s1) (ps.map Int.toNat) = (ready s1).getD (x % (ready s1).length) 0 := by
          unfold next
          rw [dif_pos (by rw [htk, List.length_map]; exact hkl)]
          simp only [htk, List.getElem_map, hx, Int.toNat_natCast]
        have hnm := next_mem (s := s1) (picks := ps.map Int.toNat) hrd
        obtain ⟨hin, hhow⟩ := ready_mem hnm
        have hag := all_go (picks := ps.map Int.toNat) (k := ps.length - (k + 1)) hrd
        rw [show ps.length - (k + 1) + 1 = ps.length - k by omega] at hag
        have HAG := Lib.hid hag
        have HPK := Lib.hid (pick_yes (w := w4.drew) x s1.last (HS1.out.drew) hl)
        rw [← hnx] at HPK
        have hst := (HR1.out.only0 (Only.refl [] w4).drew).stepC hin hhow (by omega)
        have HST := Lib.hid hst
        have hsl := (step_ok HR1.out.wf hin hhow).2.2
        have HSL := Lib.hid (show (step s1 (next s1 (ready s1) (ps.map Int.toNat))).trace.length = k + 1 by rw [hsl, List.length_append, htk]; rfl)
        clear hpcell hpx hx hnm hag hst hsl hin hhow hnx hrd
        generalize next s1 (ready s1) (ps.map Int.toNat) = i' at *
        generalize hml : (ready s1).length = m at *
        clear hml
        go_wp2
        refine Lex.wp_region_text (by kernel_rfl) (by kernel_rfl) ?_
        go_wp2_with fail
        refine HPK.out.mono ?_
        clear HPK
        rintro e w5 ⟨rfl, rfl⟩
        go_wp2_with fail
        refine HST.out.mono ?_
        clear HST cp cl
        rintro e w6 ⟨rfl, hR6, _⟩
        have HRD := Lib.hid hR6.readyC
        clear hR6
        go_wp2
        refine Lex.sq_done (by rfl) ?_
        go_wp2_with fail
        refine HRD.out.mono ?_
        clear HRD
        rintro e w7 ⟨u7, rfl, hS7, _, hR7⟩
        have HS7 := Lib.hid hS7
        have HR7 := Lib.hid hR7
        clear hS7 hR7
        go_wp2
        go_roundw
        case measure => simp [intOf]; omega
        case rel => exact ⟨k + 1, step s1 i', by omega, by go_num, by rw [HSL.out]; exact Nat.le_refl _, fun h => absurd h (by rw [HSL.out]; omega), Lib.hid (by rw [← HE.out, HAG.out]), HS7, HR7⟩
      · obtain rfl : k = ps.length := by omega
        have HRB := Lib.hid HR1.out.bl
        have HSF : Hid (Sl w4 3 1 (.slice ua (ready s1).length uc) (ready (all (ps.map Int.toNat) ps.length (begin_ acts room))).length (nats (ready (all (ps.map Int.toNat) ps.length (begin_ acts room))))) := Lib.hid (by
          have := HE.out
          rw [Nat.sub_self] at this
          rw [← this]; exact HS1.out)
        clear HS1 HE ht ht2 hrd
        generalize (ready s1).length = m at *
        go_wp2
        exact bodyPost_ret (v := .tuple #[.slice ua m uc, iv 0]) (results2 rfl (res_tmp rfl) (res_tmp rfl)) rfl ⟨_, rfl, HSF.out, HO.out.trans (Only.of_below HRB.out [])⟩
end Go.Proofs.Ytompelilflckkaa
/-
  The document's own Run: what stands in memory while it runs, and while its answer is laid.
-/
namespace Go.Proofs.Ytompelilflckkaa
open Go.RowKit Go.Fl

section
variable {w1 wr w6 w7 : World} {r g o gq : Nat} {tv : Value} {vs : Nat → Value} {acts : List (List A)} {s : S} {i : Nat}
theorem RL.other (h : RL w1 wr r g o tv vs acts s) {T : List Nat} (ho : Only T wr w7) (hT : ∀ b ∈ T, w1.heap.size ≤ b ∧ ∃ (t : Nat) (cs : Array Value), Blk wr b t cs ∧ t ≠ 66 ∧ t ≠ 68 ∧ t ≠ 3 ∧ t ≠ 2) : RL w1 w7 r g o tv vs acts s := by
  obtain ⟨f, raw, h1, h2⟩ := h.it
  obtain ⟨h3, h4⟩ := h1.other ho hT
  exact ⟨⟨f, raw, h3, h2⟩, h.wi, h.wf, h.bl.trans h4⟩
/-- The run under way, and the answer's block: n turns are counted, tl are told. -/
structure RQ (w1 wr : World) (r g o gq : Nat) (tv : Value) (vs : Nat → Value) (acts : List (List A)) (s : S) (n : Nat) (tl : List (Nat × Nat)) (tr : Value) : Prop where
  L : RL w1 wr r g o tv vs acts s
  B : Blk wr gq 33 #[iv n, tr, .slice none 0 0, .slice none 0 0, .slice none 0 0]
  ge : w1.heap.size ≤ gq
  T : Sl wr 39 2 tr tl.length (turns tl)
  tf : ∀ b, tr.ownBlock = some b → w1.heap.size ≤ b
variable {n : Nat} {tl : List (Nat × Nat)} {tr : Value}
theorem RQ.only0 (h : RQ w1 wr r g o gq tv vs acts s n tl tr) (ho : Only [] wr w7) : RQ w1 w7 r g o gq tv vs acts s n tl tr :=
  ⟨h.L.only0 ho, h.B.only ho (by simp), h.ge, h.T.only ho (by simp), h.tf⟩
theorem RQ.turn (h : RQ w1 w6 r g o gq tv vs acts s n tl tr) {c : Nat} (hc : tl.length = c) {x : Nat × Nat} {v7 : Value} (hS : Sl w7 39 2 v7 (c + 1) (turns tl ++ [iv x.1, iv x.2])) (hg : w6.grownBy w7 tr.ownBlock) (hown : v7.ownBlock = tr.ownBlock ∨ v7.ownBlock = some w6.heap.size) :
    RQ w1 (w7.setCell ⟨gq, 1, none⟩ v7) r g o gq tv vs acts s n (tl ++ [x]) v7 ∧ Blk w7 gq 33 #[iv n, tr, .slice none 0 0, .slice none 0 0, .slice none 0 0] := by
  subst hc
  have hne : tr.ownBlock ≠ some gq := fun e => by
    obtain ⟨cur, hb⟩ := h.T.ty e
    have := hb.ty_eq h.B
    cases this
  have hB7 : Blk w7 gq 33 #[iv n, tr, .slice none 0 0, .slice none 0 0, .slice none 0 0] := Blk.grown h.B hg hne
  have ho : Only (gq :: tr.ownBlock.toList) w6 (w7.setCell ⟨gq, 1, none⟩ v7) := ((Only.refl _ w6).grown hg fun g hg => .inl (by simp [hg])).setCell (.inl (by simp)) _
  refine ⟨⟨h.L.other ho fun b hm => ?_, hB7.set_ 1 v7, h.ge, ?_, fun b hb => ?_⟩, hB7⟩
  · simp only [List.mem_cons, Option.mem_toList] at hm
    rcases hm with rfl | hm
    · exact ⟨h.ge, 33, _, h.B, by decide, by decide, by decide, by decide⟩
    · obtain ⟨cur, hb⟩ := h.T.ty hm
      exact ⟨h.tf _ hm, 39, _, hb, by decide, by decide, by decide, by decide⟩
  · rw [turns_append, List.length_append]
    exact hS.far (fun e => by
      obtain ⟨cur, hb⟩ := hS.ty e
      have := hb.ty_eq hB7
      cases this) _
  · rcases hown with e | e
    · exact h.tf b (e ▸ hb)
    · rw [e] at hb; injection hb with hb; rw [← hb]; exact h.L.bl.size
theorem RQ.stepC (h : RQ w1 wr r g o gq tv vs acts s n tl tr) (hi : i < s.n) (hr : how s (s.ts i) = 3) (hL : s.trace.length ≤ 65536) :
    Calls Try.prog 26 #[.pointer (some ⟨r, 0, none⟩), iv i] wr fun e w' => e = .returned (.tuple #[]) ∧ RQ w1 w' r g o gq tv vs acts (step s i) n tl tr := by
  refine (h.L.stepC hi hr hL).mono fun e w' => ?_
  rintro ⟨rfl, hR, hT⟩
  refine ⟨rfl, hR, (hT gq 33 _ h.B (by decide) (by decide) (by decide) (by decide)).trans h.B, h.ge, h.T.keep fun b hb => ?_, h.tf⟩
  obtain ⟨cur, hb2⟩ := h.T.ty hb
  exact hT b 39 _ hb2 (by decide) (by decide) (by decide) (by decide)
theorem RQ.count (h : RQ w1 wr r g o gq tv vs acts s n tl tr) : RQ w1 (wr.setCell ⟨gq, 0, none⟩ (iv ((n : Int) + 1))) r g o gq tv vs acts s (n + 1) tl tr := by
  have e : ((n : Int) + 1) = ((n + 1 : Nat) : Int) := by omega
  rw [e]
  have ho : Only [gq] wr (wr.setCell ⟨gq, 0, none⟩ (iv (n + 1 : Nat))) := (Only.refl _ wr).setCell (.inl (by simp)) _
  refine ⟨h.L.other ho fun b hm => ?_, h.B.set_ 0 _, h.ge, ?_, h.tf⟩
  · obtain rfl : b = gq := by simpa using hm
    exact ⟨h.ge, 33, _, h.B, by decide, by decide, by decide, by decide⟩
  · exact h.T.far (fun e => by
      obtain ⟨cur, hb⟩ := h.T.ty e
      have := hb.ty_eq h.B
      cases this) _
theorem RQ.readyC (h : RQ w1 wr r g o gq tv vs acts s n tl tr) :
    Calls Try.prog 24 #[.pointer (some ⟨r, 0, none⟩)] wr fun e w' => ∃ u, e = .returned u ∧ Sl w' 3 1 u (ready s).length (nats (ready s)) ∧ RQ w1 w' r g o gq tv vs acts s n tl tr := by
  obtain ⟨f, raw, h1, h2⟩ := h.L.it
  refine (ready2_ok h1 h.L.wf h.L.wi h2).mono fun e w' => ?_
  rintro ⟨u, rfl, hS, hF, hO⟩
  exact ⟨u, rfl, hS, h.only0 hO⟩
/-- A ready task's place. -/
theorem RL.atcell (h : RL w1 wr r g o tv vs acts s) (hi : i < s.n) (hr : how s (s.ts i) = 3) : wr.cell? ⟨g, o + i * 6 + 1, none⟩ = some (iv (s.ts i).pc) := by
  obtain ⟨f, raw, h1, h2⟩ := h.it
  obtain ⟨_, c, _⟩ := h1.cells hi
  have hp := (how_ready hr).2
  rw [c]
  rcases (h2 i hi).2.at_ with e | e
  · rw [e]
  · omega
theorem RL.tasks (h : RL w1 wr r g o tv vs acts s) (hn : 0 < s.n) : ∃ cap, tv = .slice (some ⟨g, o, none⟩) s.n cap ∧ wr.cell? ⟨r, 0, none⟩ = some (.slice (some ⟨g, o, none⟩) s.n cap) ∧ g < wr.heap.size := by
  obtain ⟨f, raw, h1, h2⟩ := h.it
  obtain ⟨a, cap, rfl, ha⟩ := h1.tv_
  obtain rfl := ha hn
  obtain ⟨_, _, _, _, _, _, hg, _⟩ := h1.cells hn
  exact ⟨cap, rfl, h1.rc.cellv (k := 0) (by omega) rfl, hg⟩
theorem RL.tasks0 (h : RL w1 wr r g o tv vs acts s) : ∃ a cap, tv = .slice a s.n cap ∧ wr.cell? ⟨r, 0, none⟩ = some (.slice a s.n cap) := by
  obtain ⟨f, raw, h1, h2⟩ := h.it
  obtain ⟨a, cap, rfl, ha⟩ := h1.tv_
  exact ⟨a, cap, rfl, h1.rc.cellv (k := 0) (by omega) rfl⟩
theorem RL.cRegs (h : RL w1 wr r g o tv vs acts s) : ∀ j u, (regsV s)[j]? = some u → wr.cell? ((⟨r, 13, none⟩ : Addr).add j) = some u := fun j u hu => by
  obtain ⟨f, raw, h1, h2⟩ := h.it
  unfold regsV at hu
  rw [List.getElem?_map] at hu
  by_cases hj : j < 8
  · rw [List.getElem?_range hj] at hu
    injection hu with hu
    subst hu
    rw [Addr.add_lit]
    exact h1.rc.cellv (by omega) (spec2_reg hj)
  · rw [List.getElem?_eq_none (by simp; omega)] at hu; cases hu
theorem RL.queue (h : RL w1 wr r g o tv vs acts s) {k : Nat} (hk : k < 4) : ∃ v, wr.cell? ⟨r, 9 + k, none⟩ = some v ∧ Sl wr 2 1 v (s.queues k).length (ints (s.queues k)) := by
  obtain ⟨f, raw, h1, h2⟩ := h.it
  exact ⟨f (9 + k), h1.rc.cell (by omega), h1.rc.row (by omega) (spec2_queue hk)⟩
/-- How a task stands, as the document tells it at the end. -/
theorem RL.howC (h : RL w1 wr r g o tv vs acts s) (hi : i < s.n) : ∃ hw : Int, wr.cell? ⟨g, o + i * 6 + 4, none⟩ = some (iv hw) ∧ wr.cell? ⟨g, o + i * 6 + 5, none⟩ = some (iv (s.ts i).num) ∧
    ((hw ≠ 0 ∧ how s (s.ts i) = hw) ∨ (hw = 0 ∧ ∃ v : Int, (∀ w', Only [] wr w' → Calls Try.prog 27 #[.pointer (some ⟨r, 0, none⟩), iv i] w' fun e w'' => e = .returned (iv v) ∧ Only [] w' w'') ∧ how s (s.ts i) = if v = 0 then 3 else v)) := by
  obtain ⟨f, raw, h1, h2⟩ := h.it
  obtain ⟨_, _, _, _, c4, c5, _⟩ := h1.cells hi
  obtain ⟨ha, hs⟩ := h2 i hi
  refine ⟨_, c4, by rw [c5, hs.num], ?_⟩
  have e := hs.how
  by_cases hd : (s.ts i).died = true
  · rw [if_pos hd] at e
    left
    rw [e]
    exact ⟨by decide, by unfold how; rw [if_pos hd]⟩
  rw [if_neg hd] at e
  by_cases hp : (s.ts i).acts.length ≤ (s.ts i).pc
  · rw [if_pos hp] at e
    left
    rw [e]
    exact ⟨by decide, by unfold how; rw [if_neg hd, if_pos hp]⟩
  rw [if_neg hp] at e
  right
  obtain ⟨l1, l2, l3⟩ := hs.live e
  refine ⟨e, whyM s (s.ts i).act (s.ts i).wait, fun w' ho => ?_, how_why h.wi l1 l2 (h.wf.wait i hi) fun hw => (h.wi.wt i hi hw).2.2⟩
  obtain ⟨h3, _⟩ := h1.only0 ho
  have hp2 : (s.ts i).pc < (acts.getD i []).length := by rw [ha]; exact l2
  have hga : (acts.getD i [])[(s.ts i).pc] = (s.ts i).act := by
    unfold T.act
    have hx : ∀ (l : List A) (hh : (s.ts i).pc < l.length), l = (s.ts i).acts → l[(s.ts i).pc] = (s.ts i).acts.getD (s.ts i).pc A.none := fun l hh e => by
      subst e
      rw [List.getD_eq_getElem?_getD, List.getElem?_eq_getElem hh]
      rfl
    exact hx _ hp2 ha
  have hok : okA (s.ts i).acts.length (s.ts i).act := h.wf.acts i hi _ (by
    unfold T.act
    rw [List.getD_eq_getElem?_getD, List.getElem?_eq_getElem l2]
    exact List.getElem_mem l2)
  have hwt := h.wf.wait i hi
  have := why_ok h3 hi hp2 l3 hga hok (by rw [hs.wait]; exact hwt) (fun hw => (h.wi.wt i hi (by rw [← hs.wait]; exact hw)).2.2)
  rw [hs.wait] at this
  exact this
theorem RL.lt (h : RL w1 wr r g o tv vs acts s) : r < wr.heap.size := h.lastcell.2
/-- How many turns are counted. -/
def cnt0 (w : World) (g : Nat) : Nat := match w.cell? ⟨g, 0, none⟩ with | some (.int _ n) => n.toNat | _ => 0
theorem RQ.cnt (h : RQ w1 wr r g o gq tv vs acts s n tl tr) : cnt0 wr gq = n := by
  unfold cnt0
  rw [h.B.cell]
  rfl
end
/-- The answer under way. -/
structure RW (w1 wr : World) (r g o gq : Nat) (tv : Value) (vs : Nat → Value) (acts : List (List A)) (s : S) (tr rg en qs : Value) (us : List Value) (ne : Nat) : Prop where
  L : RL w1 wr r g o tv vs acts s
  B : Blk wr gq 33 #[iv s.trace.length, tr, rg, en, qs]
  ge : w1.heap.size ≤ gq
  T : Sl wr 39 2 tr s.trace.length (turns s.trace)
  tf : ∀ b, tr.ownBlock = some b → w1.heap.size ≤ b
  R : Sl wr 2 1 rg 8 (regsV s)
  Q : Sl wr 29 1 qs us.length us
  qf : ∀ b, qs.ownBlock = some b → w1.heap.size ≤ b
  E : ∀ j (h : j < us.length), Sl wr 2 1 us[j] (s.queues j).length (ints (s.queues j))
  N : Sl wr 49 2 en ne (endsV s ne)
  nf : ∀ b, en.ownBlock = some b → w1.heap.size ≤ b
section
variable {w1 wr w6 w7 : World} {r g o gq : Nat} {tv : Value} {vs : Nat → Value} {acts : List (List A)} {s : S} {i : Nat} {tr rg en qs : Value} {us : List Value} {ne : Nat}
theorem RW.only0 (h : RW w1 w6 r g o gq tv vs acts s tr rg en qs us ne) (ho : Only [] w6 w7) : RW w1 w7 r g o gq tv vs acts s tr rg en qs us ne :=
  ⟨h.L.only0 ho, h.B.only ho (by simp), h.ge, h.T.only ho (by simp), h.tf, h.R.only ho (by simp), h.Q.only ho (by simp), h.qf, fun j hj => (h.E j hj).only ho (by simp), h.N.only ho (by simp), h.nf⟩
/-- The registers are laid. -/
theorem RQ.regs (h : RQ w1 w6 r g o gq tv vs acts s s.trace.length s.trace tr) {v7 : Value} (hS : Sl w7 2 1 v7 8 (regsV s)) (hg : w6.grownBy w7 none) : RW w1 (w7.setCell ⟨gq, 2, none⟩ v7) r g o gq tv vs acts s tr v7 (.slice none 0 0) (.slice none 0 0) [] 0 ∧ Blk w7 gq 33 #[iv s.trace.length, tr, .slice none 0 0, .slice none 0 0, .slice none 0 0] := by
  have hB7 : Blk w7 gq 33 #[iv s.trace.length, tr, .slice none 0 0, .slice none 0 0, .slice none 0 0] := Blk.grown h.B hg (by simp)
  have ho : Only [gq] w6 (w7.setCell ⟨gq, 2, none⟩ v7) := ((Only.refl _ w6).grown hg fun g hg => by cases hg).setCell (.inl (by simp)) _
  refine ⟨⟨h.L.other ho fun b hm => ?_, hB7.set_ 2 v7, h.ge, ?_, h.tf, ?_, Sl.nil _ _ _, fun b hb => (by cases hb), fun j hj => absurd hj (Nat.not_lt_zero j), Sl.nil _ _ _, fun b hb => (by cases hb)⟩, hB7⟩
  · obtain rfl : b = gq := by simpa using hm
    exact ⟨h.ge, 33, _, h.B, by decide, by decide, by decide, by decide⟩
  · exact sl_typed h.T ho fun b hm => by
      obtain rfl : b = gq := by simpa using hm
      exact ⟨33, _, h.B, by decide⟩
  · exact hS.far (fun e => by
      obtain ⟨cur, hb⟩ := hS.ty e
      have := hb.ty_eq hB7
      cases this) _
theorem RW.queue (h : RW w1 w6 r g o gq tv vs acts s tr rg en qs us ne) {v6 v7 : Value} (hv : Sl w6 2 1 v6 (s.queues us.length).length (ints (s.queues us.length))) (hS : Sl w7 29 1 v7 (us.length + 1) (us ++ [v6]))
    (hg : w6.grownBy w7 qs.ownBlock) (hown : v7.ownBlock = qs.ownBlock ∨ v7.ownBlock = some w6.heap.size) : RW w1 (w7.setCell ⟨gq, 4, none⟩ v7) r g o gq tv vs acts s tr rg en v7 (us ++ [v6]) ne ∧ Blk w7 gq 33 #[iv s.trace.length, tr, rg, en, qs] := by
  have hne : qs.ownBlock ≠ some gq := fun e => by
    obtain ⟨cur, hb⟩ := h.Q.ty e
    have := hb.ty_eq h.B
    cases this
  have hB7 : Blk w7 gq 33 #[iv s.trace.length, tr, rg, en, qs] := Blk.grown h.B hg hne
  have ho : Only (gq :: qs.ownBlock.toList) w6 (w7.setCell ⟨gq, 4, none⟩ v7) := ((Only.refl _ w6).grown hg fun g hg => .inl (by simp [hg])).setCell (.inl (by simp)) _
  have hT2 : ∀ t0 : TypeId, t0 ≠ 33 → t0 ≠ 29 → ∀ g ∈ gq :: qs.ownBlock.toList, ∃ (t : TypeId) (cs : Array Value), Blk w6 g t cs ∧ t ≠ t0 := fun t0 h1 h2 g hm => by
    simp only [List.mem_cons, Option.mem_toList] at hm
    rcases hm with rfl | hm
    · exact ⟨33, _, h.B, fun e => h1 e.symm⟩
    · obtain ⟨cur, hb⟩ := h.Q.ty hm
      exact ⟨29, _, hb, fun e => h2 e.symm⟩
  refine ⟨⟨h.L.other ho fun b hm => ?_, hB7.set_ 4 v7, h.ge, sl_typed h.T ho (hT2 39 (by decide) (by decide)), h.tf, sl_typed h.R ho (hT2 2 (by decide) (by decide)), ?_, fun b hb => ?_, fun j hj => ?_, sl_typed h.N ho (hT2 49 (by decide) (by decide)), h.nf⟩, hB7⟩
  · simp only [List.mem_cons, Option.mem_toList] at hm
    rcases hm with rfl | hm
    · exact ⟨h.ge, 33, _, h.B, by decide, by decide, by decide, by decide⟩
    · obtain ⟨cur, hb⟩ := h.Q.ty hm
      exact ⟨h.qf _ hm, 29, _, hb, by decide, by decide, by decide, by decide⟩
  · rw [List.length_append]
    exact hS.far (fun e => by
      obtain ⟨cur, hb⟩ := hS.ty e
      have := hb.ty_eq hB7
      cases this) _
  · rcases hown with e | e
    · exact h.qf b (e ▸ hb)
    · rw [e] at hb; injection hb with hb; rw [← hb]; exact h.L.bl.size
  · by_cases hjk : j < us.length
    · rw [List.getElem_append_left hjk]
      exact sl_typed (h.E j hjk) ho (hT2 2 (by decide) (by decide))
    · have hj2 : j = us.length := by simp at hj; omega
      subst hj2
      rw [List.getElem_append_right (by omega)]
      simp only [Nat.sub_self, List.getElem_singleton]
      exact sl_typed hv ho (hT2 2 (by decide) (by decide))
theorem RW.end_ (h : RW w1 w6 r g o gq tv vs acts s tr rg en qs us ne) {v7 : Value} (hS : Sl w7 49 2 v7 (ne + 1) (endsV s ne ++ [iv (how s (s.ts ne)), iv (s.ts ne).num]))
    (hg : w6.grownBy w7 en.ownBlock) (hown : v7.ownBlock = en.ownBlock ∨ v7.ownBlock = some w6.heap.size) : RW w1 (w7.setCell ⟨gq, 3, none⟩ v7) r g o gq tv vs acts s tr rg v7 qs us (ne + 1) ∧ Blk w7 gq 33 #[iv s.trace.length, tr, rg, en, qs] := by
  have hne : en.ownBlock ≠ some gq := fun e => by
    obtain ⟨cur, hb⟩ := h.N.ty e
    have := hb.ty_eq h.B
    cases this
  have hB7 : Blk w7 gq 33 #[iv s.trace.length, tr, rg, en, qs] := Blk.grown h.B hg hne
  have ho : Only (gq :: en.ownBlock.toList) w6 (w7.setCell ⟨gq, 3, none⟩ v7) := ((Only.refl _ w6).grown hg fun g hg => .inl (by simp [hg])).setCell (.inl (by simp)) _
  have hT2 : ∀ t0 : TypeId, t0 ≠ 33 → t0 ≠ 49 → ∀ g ∈ gq :: en.ownBlock.toList, ∃ (t : TypeId) (cs : Array Value), Blk w6 g t cs ∧ t ≠ t0 := fun t0 h1 h2 g hm => by
    simp only [List.mem_cons, Option.mem_toList] at hm
    rcases hm with rfl | hm
    · exact ⟨33, _, h.B, fun e => h1 e.symm⟩
    · obtain ⟨cur, hb⟩ := h.N.ty hm
      exact ⟨49, _, hb, fun e => h2 e.symm⟩
  refine ⟨⟨h.L.other ho fun b hm => ?_, hB7.set_ 3 v7, h.ge, sl_typed h.T ho (hT2 39 (by decide) (by decide)), h.tf, sl_typed h.R ho (hT2 2 (by decide) (by decide)), sl_typed h.Q ho (hT2 29 (by decide) (by decide)), h.qf, fun j hj => sl_typed (h.E j hj) ho (hT2 2 (by decide) (by decide)), ?_, fun b hb => ?_⟩, hB7⟩
  · simp only [List.mem_cons, Option.mem_toList] at hm
    rcases hm with rfl | hm
    · exact ⟨h.ge, 33, _, h.B, by decide, by decide, by decide, by decide⟩
    · obtain ⟨cur, hb⟩ := h.N.ty hm
      exact ⟨h.nf _ hm, 49, _, hb, by decide, by decide, by decide, by decide⟩
  · rw [endsV_succ]
    exact hS.far (fun e => by
      obtain ⟨cur, hb⟩ := hS.ty e
      have := hb.ty_eq hB7
      cases this) _
  · rcases hown with e | e
    · exact h.nf b (e ▸ hb)
    · rw [e] at hb; injection hb with hb; rw [← hb]; exact h.L.bl.size
/-- The answer. -/
theorem RW.rd (h : RW w1 wr r g o gq tv vs acts s tr rg en qs us s.n) (hu : us.length = 4) {g8 : Nat} {Z : Array Value} (h8 : Blk wr g8 33 Z) (ho : Only [g8] wr w7) : RD w7 s tr rg en qs := by
  have hT : ∀ t0 : TypeId, t0 ≠ 33 → ∀ g ∈ [g8], ∃ (t : TypeId) (cs : Array Value), Blk wr g t cs ∧ t ≠ t0 := fun t0 h1 g hm => by
    obtain rfl : g = g8 := by simpa using hm
    exact ⟨33, _, h8, fun e => h1 e.symm⟩
  have hQ := h.Q
  rw [hu] at hQ
  have hv : RunV 0 w7 s (.agg #[iv s.trace.length, tr, rg, en, qs]) := ⟨⟨tr, rg, en, qs, us, rfl, sl_typed h.T ho (hT 39 (by decide)), sl_typed h.R ho (hT 2 (by decide)), sl_typed h.N ho (hT 49 (by decide)), sl_typed hQ ho (hT 29 (by decide)),
    fun j hj => ⟨sl_typed (h.E j hj) ho (hT 2 (by decide)), fun _ _ => Nat.zero_le _⟩, fun _ _ => Nat.zero_le _, fun _ _ => Nat.zero_le _, fun _ _ => Nat.zero_le _, fun _ _ => Nat.zero_le _⟩⟩
  obtain ⟨tr2, rg2, en2, qs2, he, hr⟩ := hv.rd
  injection he with he
  simp only [Array.mk.injEq, List.cons.injEq, and_true, true_and] at he
  obtain ⟨rfl, rfl, rfl, rfl⟩ := he
  exact hr
end
end Go.Proofs.Ytompelilflckkaa
