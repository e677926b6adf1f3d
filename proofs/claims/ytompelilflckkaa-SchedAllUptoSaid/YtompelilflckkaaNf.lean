/-
  SchedAll: tasks in memory of their own (the law's twin), and whether they are as they were (kept): how they lie.
-/
import Derived.Test.YtompelilflckkaaMs
import Derived.Deep.RegionLaw
import Derived.Test.YtompelilflckkaaNc
import Derived.BigQuiet
set_option linter.unusedSimpArgs false
set_option linter.unusedVariables false
namespace Go.Proofs.Ytompelilflckkaa
open Go.RowKit Go.Fl

theorem run_append_acts {P : Program} {w : World} {B : Nat} (t ty e : TypeId) (i : TypeInfo) (z : Value) (bytes : Nat) (ht : P.underlying t = some (.slice e)) (hi : P.info? e = some i) (hz : i.zero = some z)
    (hsize : i.size = 4) (hby : i.bytes = bytes) (hzs : z.cells.size = 4)
    {v : Value} {n : Nat} {xs : List Value} (hown : Sl w e 4 v n xs) {vx : Value} {l : List A} (hx : ActsV B w vx l)
    (h63 : n + l.length ≤ maxLen) (hbytes : (n + l.length) * bytes ≤ 140737488355328) :
    ∃ v' w', (Builtin.append_ #[t, t] ty #[v, vx]).run P w = .ok v' w' ∧ Sl w' e 4 v' (n + l.length) (xs ++ flatA l) ∧ w.grownBy w' v.ownBlock ∧
      (v'.ownBlock = v.ownBlock ∨ v'.ownBlock = some w.heap.size) := by
  obtain ⟨ax, cx, rfl, hc, hm, hcell⟩ := hx
  rcases Nat.eq_zero_or_pos l.length with h0 | h0
  · obtain rfl : l = [] := List.length_eq_zero_iff.1 h0
    cases ax with
    | none =>
      refine ⟨v, w, ?_, by simpa [flatA] using hown, ⟨rfl, rfl, rfl, Nat.le_refl _, fun _ _ _ => rfl⟩, .inl rfl⟩
      obtain ⟨a, c, rfl, hc, ha⟩ := hown.shape
      cases a <;> simp [Builtin.append_, run_underlying ht, sizeOf, typeInfo, hi, Builtin.lenOf, hc, Builtin.firstCells, storeCells]
    | some ad => exact run_append_sl t ty e i z 4 bytes ht hi hz hsize hby hzs (by omega) hown ad 0 cx [] rfl (fun j u hu => by simp at hu) (fun u hu => by simp at hu) h63 hbytes
  · obtain ⟨g, off, rfl, _, hg, hcc⟩ := hcell h0
    have hlen : ∀ (l : List A), (flatA l).length = l.length * 4 := fun l => by
      induction l with
      | nil => rfl
      | cons a l ih => rw [flatA_cons, List.length_append, ih]; simp; omega
    refine run_append_sl t ty e i z 4 bytes ht hi hz hsize hby hzs (by omega) hown ⟨g, off, none⟩ l.length cx (flatA l) (hlen l) (fun j u hu => ?_) (fun u hu => ?_) h63 hbytes
    · have hj : j < l.length * 4 := by
        have := (List.getElem?_eq_some_iff.1 hu).1
        rwa [hlen] at this
      obtain ⟨a0, a1, a2, a3⟩ := flatA_at l (j / 4) (by omega)
      obtain ⟨b0, b1, b2, b3⟩ := hcc (j / 4) (by omega)
      rw [Addr.add_lit]
      have hm4 : j % 4 = 0 ∨ j % 4 = 1 ∨ j % 4 = 2 ∨ j % 4 = 3 := by omega
      rcases hm4 with e | e | e | e
      · rw [show off + j = off + j / 4 * 4 by omega, b0, ← a0, ← hu]; congr 1; omega
      · rw [show off + j = off + j / 4 * 4 + 1 by omega, b1, ← a1, ← hu]; congr 1; omega
      · rw [show off + j = off + j / 4 * 4 + 2 by omega, b2, ← a2, ← hu]; congr 1; omega
      · rw [show off + j = off + j / 4 * 4 + 3 by omega, b3, ← a3, ← hu]; congr 1; omega
    · unfold flatA at hu
      obtain ⟨a, _, hu⟩ := List.mem_flatMap.1 hu
      simp at hu
      rcases hu with rfl | rfl | rfl | rfl <;> rfl
theorem step_append_acts {P : Program} {w : World} {B : Nat} {ops : Array Oper} {o : Oper} {a : Act} {K : Act → World → Prop} {Q : Exit → Act → World → Prop} {E : Prop} (hgd : o.guard = none) (s x : Operand) (t : TypeId)
    (ho : o.op = .call { callee := .builtin .append, args := #[s, x], argTypes := #[t, t] })
    (e : TypeId) (i : TypeInfo) (z : Value) (bytes : Nat) (ht : P.underlying t = some (.slice e)) (hi : P.info? e = some i) (hz : i.zero = some z)
    (hsize : i.size = 4) (hby : i.bytes = bytes) (hzs : z.cells.size = 4)
    {v : Value} {n : Nat} {xs : List Value} (hs : a.eval s = v) (hown : Sl w e 4 v n xs)
    {vx : Value} {l : List A} (hx : a.eval x = vx) (hxs : ActsV B w vx l)
    (h63 : n + l.length ≤ maxLen) (hbytes : (n + l.length) * bytes ≤ 140737488355328)
    (h : ∀ v' w', Sl w' e 4 v' (n + l.length) (xs ++ flatA l) → w.grownBy w' v.ownBlock → (v'.ownBlock = v.ownBlock ∨ v'.ownBlock = some w.heap.size) → K (a.put o.dst v') w') :
    if Region.wanted o (yielded ops a.tmps) = true then Oper.wp P o a w K Q else E := by
  have hw : Region.wanted o (yielded ops a.tmps) = true := by simp [Region.wanted, hgd]
  rw [if_pos hw]
  obtain ⟨v', w', hr, h2, h3, h4⟩ := run_append_acts (P := P) t o.type e i z bytes ht hi hz hsize hby hzs hown hxs h63 hbytes
  unfold Oper.wp execOp
  simp only [ho, resolve, invoke, builtin, Sem.run_bind, Sem.run_pure, Result.andThen_ok, List.map_toArray, List.map_cons, List.map_nil, hs, hx, hr]
  exact h v' w' h2 h3 h4
/-- The act that stands behind each list. -/
def mk3 : A := ⟨-3, 0, 0, 0⟩
/-- Lists laid anew, so far. -/
structure TW (w : World) (B : Nat) (acts : List (List A)) (hv : Value) (us : List Value) : Prop where
  S : Sl w 45 1 hv us.length us
  o : ∀ b, hv.ownBlock = some b → B ≤ b
  E : ∀ j (h : j < us.length), ∃ l g off cap, acts[j]? = some l ∧ us[j] = .slice (some ⟨g, off, none⟩) l.length cap ∧ l.length + 1 ≤ cap ∧ Sl w 47 4 (.slice (some ⟨g, off, none⟩) (l.length + 1) cap) (l.length + 1) (flatA (l ++ [mk3])) ∧ B ≤ g
section
variable {w w6 w7 : World} {B : Nat} {acts : List (List A)} {hv : Value} {us : List Value}
theorem TW.nil (w : World) (B : Nat) (acts : List (List A)) : TW w B acts (.slice none 0 0) [] :=
  ⟨Sl.nil _ _ _, fun b hb => (by cases hb), fun j hj => absurd hj (Nat.not_lt_zero j)⟩
theorem TW.only0 (h : TW w B acts hv us) (ho : Only [] w w7) : TW w7 B acts hv us :=
  ⟨h.S.only ho (by simp), h.o, fun j hj => by
    obtain ⟨l, g, off, cap, h1, h2, h3, h4, h5⟩ := h.E j hj
    exact ⟨l, g, off, cap, h1, h2, h3, h4.only ho (by simp), h5⟩⟩
theorem TW.push (h : TW w6 B acts hv us) {l : List A} (hl : acts[us.length]? = some l) {g off cap : Nat} (hc : l.length + 1 ≤ cap) (hS6 : Sl w6 47 4 (.slice (some ⟨g, off, none⟩) (l.length + 1) cap) (l.length + 1) (flatA (l ++ [mk3]))) (hgB : B ≤ g)
    {v7 : Value} (hS : Sl w7 45 1 v7 (us.length + 1) (us ++ [.slice (some ⟨g, off, none⟩) l.length cap])) (hg : w6.grownBy w7 hv.ownBlock) (hB : B ≤ w6.heap.size) (hown : v7.ownBlock = hv.ownBlock ∨ v7.ownBlock = some w6.heap.size) : TW w7 B acts v7 (us ++ [.slice (some ⟨g, off, none⟩) l.length cap]) := by
  have ho : Only hv.ownBlock.toList w6 w7 := (Only.refl _ w6).grown hg fun g hg => .inl (by simp [hg])
  have hT : ∀ b ∈ hv.ownBlock.toList, ∃ (t : TypeId) (cs : Array Value), Blk w6 b t cs ∧ t ≠ 47 := fun b hm => by
    simp only [Option.mem_toList] at hm
    obtain ⟨cur, hb⟩ := h.S.ty hm
    exact ⟨45, _, hb, by decide⟩
  have hk : ∀ {v n xs}, Sl w6 47 4 v n xs → Sl w7 47 4 v n xs := fun {v n xs} h1 => h1.only ho fun g hg hm => by
    obtain ⟨t, cs, hb, hne⟩ := hT g hm
    obtain ⟨cur, hb2⟩ := h1.ty hg
    exact hne (hb.ty_eq hb2)
  refine ⟨by rw [List.length_append]; exact hS, fun b hb => ?_, fun j hj => ?_⟩
  · rcases hown with e | e
    · exact h.o b (e ▸ hb)
    · rw [e] at hb; injection hb with hb; omega
  · by_cases hjk : j < us.length
    · rw [List.getElem_append_left hjk]
      obtain ⟨l, g, off, cap, h1, h2, h3, h4, h5⟩ := h.E j hjk
      exact ⟨l, g, off, cap, h1, h2, h3, hk h4, h5⟩
    · have hj2 : j = us.length := by simp at hj; omega
      subst hj2
      rw [List.getElem_append_right (by omega)]
      simp only [Nat.sub_self, List.getElem_singleton]
      exact ⟨l, g, off, cap, hl, rfl, hc, hk hS6, hgB⟩
/-- They are tasks. -/
theorem TW.tasks (h : TW w B acts hv us) (hu : us.length = acts.length) : TasksV w.heap.size w hv acts :=
  tasks_sl h.S hu fun i hi hv => by
    obtain ⟨l, g, off, cap, h1, h2, h3, h4, _⟩ := h.E i hv
    rw [List.getElem?_eq_getElem hi] at h1
    injection h1 with h1
    subst h1
    rw [h2]
    refine acts_sl (n := acts[i].length) ?_ rfl
    have := h4.front (k := acts[i].length) (cap2 := cap) (by omega) (by omega) (Nat.le_refl _)
    have e : (flatA (acts[i] ++ [mk3])).take (acts[i].length * 4) = flatA acts[i] := by
      have hlen : ∀ (l : List A), (flatA l).length = l.length * 4 := fun l => by
        induction l with
        | nil => rfl
        | cons a l ih => rw [flatA_cons, List.length_append, ih]; simp; omega
      rw [flatA_append, List.take_append_of_le_length (by rw [hlen]; omega), List.take_of_length_le (by rw [hlen]; omega)]
    rw [e] at this
    exact this
end
end Go.Proofs.Ytompelilflckkaa
/-
  SchedAll: the law's twin: tasks in memory of their own.
-/
namespace Go.Proofs.Ytompelilflckkaa
open Go.RowKit Go.Fl

theorem info45' : (Try.prog.info? 45).map (fun i => (i.zero, i.size, i.bytes)) = some (some (.slice none 0 0), 1, 24) := by kernel_rfl
set_option maxRecDepth 100000 in
set_option maxHeartbeats 12800000 in
theorem twin_ok {w : World} {tv : Value} {acts : List (List A)} (h : TasksV w.heap.size w tv acts) (hn : acts.length ≤ 40) (hm : ∀ l ∈ acts, l.length ≤ 1048576) :
    Calls Try.prog 10 #[tv] w fun e w' => ∃ hv us, e = .returned hv ∧ us.length = acts.length ∧ TW w' w.heap.size acts hv us ∧ Only [] w w' := by
  obtain ⟨j47, si, sz0, sz1, sz2⟩ := info_parts info47
  obtain ⟨j45, ti, tz0, tz1, tz2⟩ := info_parts info45'
  have HT := Lib.hid h
  have HM := Lib.hid hm
  obtain ⟨ta, tc, htv, _, _, _⟩ := h
  subst htv
  clear hm
  go_enter Try.func10, Try.ntmps10
  go_wp2
  go_loopw [3, 4] (fun hv z wr => ∃ (i : Nat) (us : List Value), i ≤ acts.length ∧ z = .int .i64 i ∧ Hid (us.length = i) ∧ Hid (Only [] w wr) ∧ Hid (TW wr w.heap.size acts hv us)) (fun _ z _ => acts.length - (intOf z).toNat)
  case atStart => exact ⟨0, [], Nat.zero_le _, rfl, Lib.hid rfl, Lib.hid (Only.refl _ _), Lib.hid (TW.nil _ _ _)⟩
  case round =>
    obtain ⟨w4, hwo⟩ : ∃ x : World, x = wr := ⟨_, rfl⟩
    subst hwo
    obtain ⟨i, us, hi, rfl, HU, HO, HW⟩ := hrel
    have HS := Lib.hid HW.out.S
    rw [HU.out] at HS
    obtain ⟨ha, hc, hhv, _, _⟩ := HS.out.shape
    subst hhv
    by_cases hil : i < acts.length
    · have hilz : (i : Int) < (acts.length : Int) := by omega
      obtain ⟨g0, o0, va, vc, rfl, hg0, hcell, hav⟩ := TasksV.at_ HT.out hil
      have HAV := Lib.hid hav
      have HCW : Hid (∀ W, Only [] w W → W.cell? ⟨g0, o0 + i, none⟩ = some (.slice va acts[i].length vc)) := Lib.hid fun W ho => (ho.cell (p := ⟨g0, o0 + i, none⟩) hg0 (by simp)).trans hcell
      have HLM := Lib.hid (HM.out _ (List.getElem_mem hil))
      have HGI : Hid (acts[us.length]? = some acts[i]) := Lib.hid (by rw [HU.out]; exact List.getElem?_eq_getElem hil)
      have hcw := HCW.out _ HO.out
      have hg4 : g0 < w4.heap.size := Nat.lt_of_lt_of_le hg0 HO.out.size
      clear hav hcell
      generalize acts[i] = l at *
      have hlm := HLM.out
      go_wp2
      go_region_law (first
        | (refine step_append_acts (B := w.heap.size) rfl (.const (.slice none 0 0)) (.tmp 15) 45 rfl 47 j47 _ 32 Try.underlying45 si sz0 sz1 sz2 rfl rfl (Sl.nil _ _ _) rfl (HAV.out.below (Below.of_only (by (repeat (first | with_reducible exact Only.refl _ _ | with_reducible exact HO.out | with_reducible refine Only.drew ?_ | with_reducible refine Only.drewN ?_ _ | with_reducible refine Only.alloc ?_ _ | ((with_reducible refine Only.setCell ?_ ?_ _); rotate_left; (focus (first | (left; simp; done) | (right; simp; done) | (right; simp; omega) | (right; omega))))))) (Nat.le_refl _))) (by unfold maxLen; omega) (by omega) ?_
           intro v6 w6 hS6 hg6 hat6
           have HO6 : Hid (Only [] w4 w6) := Lib.hid (only_grown (by (repeat (first | with_reducible exact Only.refl _ _ | with_reducible exact Only.refl [] w4 | with_reducible refine Only.drew ?_ | with_reducible refine Only.drewN ?_ _ | with_reducible refine Only.alloc ?_ _ | ((with_reducible refine Only.setCell ?_ ?_ _); rotate_left; (focus (first | (left; simp; done) | (right; simp; done) | (right; simp; omega) | (right; omega))))))) hg6 rfl)
           have HS6 : Hid (Sl w6 47 4 v6 l.length (flatA l)) := Lib.hid (by simpa using hS6)
           have HF6 : Hid (∀ b, v6.ownBlock = some b → w4.heap.size ≤ b) := Lib.hid (fun g hg => by
             rcases hat6 with e | e
             · exact nomatch (e.symm.trans hg)
             · rw [e] at hg; injection hg with hg; rw [← hg]; first | exact Nat.le_refl _ | simp)
           first
             | (have H18 : Hid (Blk w6 w4.heap.size 47 #[iv (-3), iv 0, iv 0, iv 0]) := Lib.hid (by
                  refine Blk.grown ?_ hg6 (fun e => by cases e)
                  with_reducible exact (Blk.new w4 47 _).drew)
                clear hg6)
             | clear hg6
           obtain ⟨ua, uc, hv6, _, _⟩ := HS6.out.shape
           subst hv6
           have hc6 := HCW.out _ (HO.out.trans HO6.out)
           have hc6a : ∀ u, (w6.alloc u).cell? ⟨g0, o0 + i, none⟩ = some (.slice va l.length vc) := fun u => HCW.out _ ((HO.out.trans HO6.out).alloc u)
           have hl6 : g0 < w6.heap.size := Nat.lt_of_lt_of_le hg4 HO6.out.size
           clear hS6 hat6)
        | (first
             | refine step_append_sls rfl (.tmp 16) (.tmp 18) 45 rfl 47 j47 _ 4 32 Try.underlying45 si sz0 sz1 sz2 rfl (by decide) rfl (HS6.out.alloc _) rfl (sl_quad (Blk.new _ _ _) rfl) (by simp [Value.oneCell']) (by unfold maxLen; omega) (by omega) ?_
             | refine step_append_sls rfl (.tmp 16) (.tmp 18) 45 rfl 47 j47 _ 4 32 Try.underlying45 si sz0 sz1 sz2 rfl (by decide) rfl HS6.out rfl (sl_quad H18.out rfl) (by simp [Value.oneCell']) (by unfold maxLen; omega) (by omega) ?_
           intro v7 w7 hS7 hg7 hat7
           have HO7 : Hid (Only [] w4 w7) := Lib.hid (Only.grown (S := []) (by (repeat (first | with_reducible exact Only.refl _ _ | with_reducible exact HO6.out | with_reducible refine Only.drew ?_ | with_reducible refine Only.drewN ?_ _ | with_reducible refine Only.alloc ?_ _ | ((with_reducible refine Only.setCell ?_ ?_ _); rotate_left; (focus (first | (left; simp; done) | (right; simp; done) | (right; simp; omega) | (right; omega))))))) hg7 (fun k hk => .inr (HF6.out k hk)))
           have HS7 : Hid (Sl w7 47 4 v7 (l.length + 1) (flatA (l ++ [mk3]))) := Lib.hid (by rw [flatA_append]; exact hS7)
           have HF7 : Hid (∀ b, v7.ownBlock = some b → w.heap.size ≤ b) := Lib.hid (fun g hg => Nat.le_trans HO.out.size (by
             rcases hat7 with e | e
             · exact HF6.out g (e ▸ hg)
             · rw [e] at hg; injection hg with hg; rw [← hg]; exact Only.size (S := []) (by (repeat (first | with_reducible exact Only.refl _ _ | with_reducible exact HO6.out | with_reducible refine Only.drew ?_ | with_reducible refine Only.drewN ?_ _ | with_reducible refine Only.alloc ?_ _ | ((with_reducible refine Only.setCell ?_ ?_ _); rotate_left; (focus (first | (left; simp; done) | (right; simp; done) | (right; simp; omega) | (right; omega)))))))))
           have HW7 := Lib.hid (HW.out.only0 HO7.out)
           obtain ⟨g7, o7, c7, hv7, _, hc7, _, _, _⟩ := HS7.out.form (by omega)
           subst hv7
           have HF7b : Hid (w.heap.size ≤ g7) := Lib.hid (HF7.out g7 rfl)
           have HC7 := Lib.hid hc7
           have hc7l : l.length ≤ c7 := by omega
           have hc7c := HCW.out _ (HO.out.trans HO7.out)
           have hl7 : g0 < w7.heap.size := Nat.lt_of_lt_of_le hg4 HO7.out.size
           have HS1 := Lib.hid HW7.out.S
           rw [HU.out] at HS1
           clear hS7 hg7 hat7)
        | (refine step_append_sls rfl (.tmp 11) (.tmp 26) 22 rfl 45 j45 _ 1 24 Try.underlying22 ti tz0 tz1 tz2 rfl (by decide) rfl (HS1.out.alloc _) rfl (sl_one (Blk.new _ _ _) rfl) (by simp [Value.oneCell']) (by unfold maxLen; omega) (by omega) ?_
           intro v8 w8 hS8 hg8 hat8
           have hoA : Only [] w7 (w7.alloc (.cells #[.slice (some ⟨g7, o7, none⟩) l.length c7] 45)) := (Only.refl _ _).alloc _
           have HP8 := Lib.hid (TW.push (HW7.out.only0 hoA) HGI.out HC7.out (HS7.out.only hoA (by simp)) HF7b.out (by rw [HU.out]; exact hS8) hg8 (Nat.le_trans HO.out.size (HO7.out.trans hoA).size) hat8)
           have HO8 : Hid (Only [] w w8) := Lib.hid (Only.grown (HO.out.trans (HO7.out.trans hoA)) hg8 (fun k hk => .inr (HW7.out.o k hk)))
           have HUL : Hid ((us ++ [(.slice (some ⟨g7, o7, none⟩) l.length c7 : Value)]).length = i + 1) := Lib.hid (by rw [List.length_append, HU.out]; rfl)
           clear hS8 hg8 hat8 hoA))
      all_goals
        go_wp2
        go_roundw
        case measure => simp [intOf]; omega
        case rel => exact ⟨i + 1, _, by omega, by go_num, HUL, HO8, HP8⟩
    · obtain rfl : i = acts.length := by omega
      go_wp2
      exact bodyPost_ret (v := .slice ha acts.length hc) (results1 rfl (res_tmp rfl)) rfl ⟨_, us, rfl, HU.out, HW.out, HO.out⟩
end Go.Proofs.Ytompelilflckkaa
/-
  SchedAll: are the lists as they were (kept)?
-/
namespace Go.Proofs.Ytompelilflckkaa
open Go.RowKit Go.Fl

/-- A list laid anew, as it is read. -/
theorem TW.at_ {w : World} {B : Nat} {acts : List (List A)} {a : Option Addr} {c n : Nat} {us : List Value} (h : TW w B acts (.slice a n c) us) (hn : us.length = n) (hu : n = acts.length) {i : Nat} (hi : i < acts.length) :
    ∃ g o b off cap, a = some ⟨g, o, none⟩ ∧ g < w.heap.size ∧ w.cell? ⟨g, o + i, none⟩ = some (.slice (some ⟨b, off, none⟩) acts[i].length cap) ∧ acts[i].length + 1 ≤ cap ∧ b < w.heap.size ∧ w.cell? ⟨b, off + acts[i].length * 4, none⟩ = some (iv (-3)) ∧
      ∀ k (hk : k < acts[i].length), w.cell? ⟨b, off + k * 4, none⟩ = some (iv acts[i][k].kind) ∧ w.cell? ⟨b, off + k * 4 + 1, none⟩ = some (iv acts[i][k].a) ∧ w.cell? ⟨b, off + k * 4 + 2, none⟩ = some (iv acts[i][k].b) ∧ w.cell? ⟨b, off + k * 4 + 3, none⟩ = some (iv acts[i][k].n) := by
  subst hn
  obtain ⟨g, o, cap, hv, hg, _, _, hc, _⟩ := h.S.form (by omega)
  injection hv with hv _ _
  obtain ⟨l, b, off, cap2, h1, h2, h3, h4, _⟩ := h.E i (by omega)
  rw [List.getElem?_eq_getElem hi] at h1
  injection h1 with h1
  subst h1
  obtain ⟨b', off', cap', hv', hb, _, _, hc', _⟩ := h4.form (by omega)
  injection hv' with e1 _ e3
  injection e1 with e1
  injection e1 with e1 e2 _
  subst e1
  subst e2
  have hcell : ∀ k (hk : k < (acts[i] ++ [mk3]).length), w.cell? ⟨b, off + k * 4, none⟩ = some (iv (acts[i] ++ [mk3])[k].kind) ∧ w.cell? ⟨b, off + k * 4 + 1, none⟩ = some (iv (acts[i] ++ [mk3])[k].a) ∧ w.cell? ⟨b, off + k * 4 + 2, none⟩ = some (iv (acts[i] ++ [mk3])[k].b) ∧ w.cell? ⟨b, off + k * 4 + 3, none⟩ = some (iv (acts[i] ++ [mk3])[k].n) := fun k hk => by
    obtain ⟨f1, f2, f3, f4⟩ := flatA_at (acts[i] ++ [mk3]) k hk
    rw [List.length_append] at hk
    simp only [List.length_cons, List.length_nil] at hk
    refine ⟨(hc' _ (by omega)).trans f1, ?_, ?_, ?_⟩
    · rw [Nat.add_assoc]; exact (hc' _ (by omega)).trans f2
    · rw [Nat.add_assoc]; exact (hc' _ (by omega)).trans f3
    · rw [Nat.add_assoc]; exact (hc' _ (by omega)).trans f4
  refine ⟨g, o, b, off, cap2, hv, hg, ?_, h3, hb, ?_, fun k hk => ?_⟩
  · rw [hc i (by omega), List.getElem?_eq_getElem (by omega), h2]
  · have := (hcell acts[i].length (by rw [List.length_append]; simp)).1
    rw [this, List.getElem_append_right (Nat.le_refl _)]
    simp [mk3]
  · have := hcell k (by rw [List.length_append]; omega)
    rw [List.getElem_append_left hk] at this
    exact this
set_option maxRecDepth 100000 in
set_option maxHeartbeats 12800000 in
theorem kept_ok {w : World} {B : Nat} {tv hv : Value} {acts : List (List A)} {us : List Value} (h : TasksV w.heap.size w tv acts) (hw : TW w B acts hv us) (hu : us.length = acts.length) (hn : acts.length ≤ 40) (hm : ∀ l ∈ acts, l.length ≤ 1048576) :
    Calls Try.prog 19 #[hv, tv] w fun e w' => e = .returned (.bool true) ∧ Only [] w w' := by
  have HT := Lib.hid h
  have HW := Lib.hid hw
  have HM := Lib.hid hm
  obtain ⟨ta, tc, htv, _, _, _⟩ := h
  subst htv
  have hs := hw.S
  rw [hu] at hs
  obtain ⟨ha, hc, hhv, _, _⟩ := hs.shape
  subst hhv
  have HU := Lib.hid hu
  clear hs hu hm hw
  go_enter Try.func19, Try.ntmps19
  go_wp2
  go_loopw [5, 6, 7] (fun z x6 x7 wr => ∃ (i : Nat), i ≤ acts.length ∧ z = .int .i64 i ∧ Hid (Only [] w wr)) (fun z _ _ _ => acts.length - (intOf z).toNat)
  case atStart => exact ⟨0, Nat.zero_le _, rfl, Lib.hid (Only.refl _ _)⟩
  case round =>
    obtain ⟨w4, hwo⟩ : ∃ x : World, x = wr := ⟨_, rfl⟩
    subst hwo
    obtain ⟨i, hi, rfl, HO⟩ := hrel
    by_cases hil : i < acts.length
    · have hilz : (i : Int) < (acts.length : Int) := by omega
      obtain ⟨g0, o0, va, vc, rfl, hg0, hcell, hav⟩ := TasksV.at_ (HT.out.below (Below.of_only HO.out (Nat.le_refl _))) hil
      obtain ⟨g1, o1, b, off, cap, rfl, hg1, hcell1, hcap, hb, hlast, hks⟩ := TW.at_ (HW.out.only0 HO.out) HU.out rfl hil
      have HAV := Lib.hid hav
      have HKS := Lib.hid hks
      have hlm := HM.out _ (List.getElem_mem hil)
      clear hav hks
      generalize acts[i] = l at *
      have hcl : (l.length : Int) + 1 ≤ (cap : Int) := by omega
      have HC0 := Lib.hid hcell
      have HC1 := Lib.hid hcell1
      go_wp2
      clear hcell hcell1 hlast
      go_loopw [7] (fun z wr => ∃ (k : Nat), k ≤ l.length ∧ z = .int .i64 k ∧ Hid (Only [] w4 wr)) (fun z _ => l.length - (intOf z).toNat)
      case atStart => exact ⟨0, Nat.zero_le _, rfl, Lib.hid (Only.refl _ _)⟩
      case round =>
        obtain ⟨w5, hwo⟩ : ∃ x : World, x = wr := ⟨_, rfl⟩
        subst hwo
        obtain ⟨k, hk, rfl, HO2⟩ := hrel
        by_cases hkl : k < l.length
        · have hklz : (k : Int) < (l.length : Int) := by omega
          obtain ⟨gv, ov, rfl, hgv, x0, x1, x2, x3⟩ := ActsV.at_ (HAV.out.below (Below.of_only HO2.out HO.out.size)) hkl
          obtain ⟨y0, y1, y2, y3⟩ := HKS.out k hkl
          have hc0 : w5.cell? ⟨g0, o0 + i, none⟩ = some (.slice (some ⟨gv, ov, none⟩) l.length vc) := (HO2.out.cell (p := ⟨g0, o0 + i, none⟩) hg0 (by simp)).trans HC0.out
          have hc1 : w5.cell? ⟨g1, o1 + i, none⟩ = some (.slice (some ⟨b, off, none⟩) l.length cap) := (HO2.out.cell (p := ⟨g1, o1 + i, none⟩) hg1 (by simp)).trans HC1.out
          have z0 : w5.cell? ⟨b, off + k * 4, none⟩ = some (iv l[k].kind) := (HO2.out.cell (p := ⟨b, off + k * 4, none⟩) hb (by simp)).trans y0
          have z1 : w5.cell? ⟨b, off + k * 4 + 1, none⟩ = some (iv l[k].a) := (HO2.out.cell (p := ⟨b, off + k * 4 + 1, none⟩) hb (by simp)).trans y1
          have z2 : w5.cell? ⟨b, off + k * 4 + 2, none⟩ = some (iv l[k].b) := (HO2.out.cell (p := ⟨b, off + k * 4 + 2, none⟩) hb (by simp)).trans y2
          have z3 : w5.cell? ⟨b, off + k * 4 + 3, none⟩ = some (iv l[k].n) := (HO2.out.cell (p := ⟨b, off + k * 4 + 3, none⟩) hb (by simp)).trans y3
          clear y0 y1 y2 y3
          generalize l[k] = y at *
          have hga : g0 < w5.heap.size := Nat.lt_of_lt_of_le hg0 HO2.out.size
          have hgb : g1 < w5.heap.size := Nat.lt_of_lt_of_le hg1 HO2.out.size
          have hgc : b < w5.heap.size := Nat.lt_of_lt_of_le hb HO2.out.size
          go_wp2
          go_quiet (fail)
          go_wp2
          go_roundw
          case measure => simp [intOf]; omega
          case rel => exact ⟨k + 1, by omega, by go_num, Lib.hid (HO2.out.drewN _)⟩
        · obtain rfl : k = l.length := by omega
          go_wp2
          go_roundw
          case measure => simp [intOf]; omega
          case rel => exact ⟨i + 1, by omega, by go_num, Lib.hid (HO.out.trans HO2.out)⟩
    · obtain rfl : i = acts.length := by omega
      go_wp2
      exact bodyPost_ret (results_tmp rfl _ _ _) rfl ⟨rfl, HO.out⟩
end Go.Proofs.Ytompelilflckkaa
