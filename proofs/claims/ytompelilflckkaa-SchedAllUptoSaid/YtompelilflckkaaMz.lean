/-
  The document's own run in plain words: what a step keeps.
-/
import Derived.Test.YtompelilflckkaaMu
import Derived.Test.YtompelilflckkaaMd
import Derived.Test.YtompelilflckkaaMy
set_option linter.unusedSimpArgs false
set_option linter.unusedVariables false
namespace Go.Proofs.Ytompelilflckkaa
open Go.RowKit Go.Fl

theorem sim_ended {t : T} {x : RT} (hd : t.died = false) (h0 : x.how = 0) (hw : x.wait = t.wait) (hg : x.guard = t.guard) (hn : x.num = t.num) (ha : x.at_ = t.pc ∨ (t.acts.length ≤ t.pc ∧ (t.acts.length : Int) ≤ x.at_ ∧ x.at_ ≤ t.acts.length + 256)) : Sim t (RT.ended t.acts.length x) := by
  unfold RT.ended
  by_cases hp : (t.acts.length : Int) ≤ x.at_
  · rw [if_pos hp]
    have : t.acts.length ≤ t.pc := by omega
    exact ⟨hw, hg, hn, by rw [hd, if_neg (by simp), if_pos this], ha⟩
  · rw [if_neg hp]
    have : ¬ t.acts.length ≤ t.pc := by omega
    exact ⟨hw, hg, hn, by rw [hd, if_neg (by simp), if_neg this]; exact h0, ha⟩
section
variable {s : S} {i : Nat} {raw : Nat → RT}
/-- A step that wakes nobody, and behind which the task does not wait. -/
theorem good_keep (hwi : WI s) (hsim : ∀ j, j < s.n → Sim (s.ts j) (raw j)) (hi : i < s.n) (hw1 : (s.ts i).wait ≠ 1) {s' : S} {t' : T} {x' : RT} (en : s'.n = s.n) (et : s'.ts = upd s.ts i t') (ec : s'.conds = s.conds) (el : ∀ k, -1 ≤ s'.locks k) (ha : t'.acts = (s.ts i).acts) (h0 : t'.wait = 0) (hx : Sim t' x') :
    WI s' ∧ ∀ j, j < s.n → (s'.ts j).acts = (s.ts j).acts ∧ Sim (s'.ts j) (upd raw i x' j) := by
  have hne : ∀ c j, j ∈ s.conds c → j ≠ i := fun c j hj e => by
    subst e
    exact hw1 (hwi.mem c j hj).2.1
  refine ⟨⟨el, fun j hj hw => ?_, fun c j hj => ?_, fun c => by rw [ec]; exact hwi.nd c⟩, fun j hj => ?_⟩
  · rw [en] at hj
    rw [et] at hw ⊢
    by_cases e : j = i
    · subst e; rw [upd_same] at hw; exact absurd h0 hw
    · rw [upd_ne _ _ _ _ e] at hw ⊢; exact hwi.wt j hj hw
  · rw [ec] at hj
    have e := hne c j hj
    rw [en, et, upd_ne _ _ _ _ e]
    exact hwi.mem c j hj
  · rw [et]
    by_cases e : j = i
    · subst e; rw [upd_same, upd_same]; exact ⟨ha, hx⟩
    · rw [upd_ne _ _ _ _ e, upd_ne _ _ _ _ e]; exact ⟨rfl, hsim j hj⟩
/-- A wait. -/
theorem good_wait (hwi : WI s) (hsim : ∀ j, j < s.n → Sim (s.ts j) (raw j)) (hi : i < s.n) (hw0 : (s.ts i).wait = 0) {x : Nat} {s' : S} (en : s'.n = s.n) (et : s'.ts = upd s.ts i { s.ts i with wait := 1 }) (ec : s'.conds = upd s.conds x (s.conds x ++ [i])) (el : ∀ k, -1 ≤ s'.locks k)
    (hd : (s.ts i).died = false) (hp : (s.ts i).pc < (s.ts i).acts.length) (hk : (s.ts i).act.kind = 3) (hx : (s.ts i).act.a.toNat = x) :
    WI s' ∧ ∀ j, j < s.n → (s'.ts j).acts = (s.ts j).acts ∧ Sim (s'.ts j) (upd raw i { raw i with wait := 1 } j) := by
  have hne : ∀ c j, j ∈ s.conds c → j ≠ i := fun c j hj e => by
    subst e
    have := (hwi.mem c j hj).2.1
    omega
  refine ⟨⟨el, fun j hj hw => ?_, fun c j hj => ?_, fun c => ?_⟩, fun j hj => ?_⟩
  · rw [en] at hj
    rw [et] at hw ⊢
    by_cases e : j = i
    · subst e; rw [upd_same]; exact ⟨hd, hp, hk⟩
    · rw [upd_ne _ _ _ _ e] at hw ⊢; exact hwi.wt j hj hw
  · rw [ec] at hj
    rw [en, et]
    by_cases e : c = x
    · subst e
      rw [upd_same, List.mem_append, List.mem_singleton] at hj
      rcases hj with hj | rfl
      · rw [upd_ne _ _ _ _ (hne _ _ hj)]; exact hwi.mem _ _ hj
      · rw [upd_same]; exact ⟨hi, rfl, hx⟩
    · rw [upd_ne _ _ _ _ e] at hj
      rw [upd_ne _ _ _ _ (hne _ _ hj)]; exact hwi.mem _ _ hj
  · rw [ec]
    by_cases e : c = x
    · subst e
      rw [upd_same, List.nodup_append]
      refine ⟨hwi.nd c, by simp, fun a ha b hb => ?_⟩
      obtain rfl : b = i := by simpa using hb
      exact hne _ _ ha
    · rw [upd_ne _ _ _ _ e]; exact hwi.nd c
  · rw [et]
    by_cases e : j = i
    · subst e
      rw [upd_same, upd_same]
      have h := hsim j hj
      exact ⟨rfl, ⟨rfl, h.guard, h.num, h.how, h.at_⟩⟩
    · rw [upd_ne _ _ _ _ e, upd_ne _ _ _ _ e]; exact ⟨rfl, hsim j hj⟩
theorem wakeRaw_at (raw : Nat → RT) (l : List Nat) (j : Nat) : wakeRaw raw l j = if j ∈ l then { raw j with wait := 2 } else raw j := by
  induction l generalizing raw with
  | nil => simp [wakeRaw]
  | cons i l ih =>
    show wakeRaw (upd raw i { raw i with wait := 2 }) l j = _
    rw [ih]
    by_cases e : j = i
    · subst e; rw [upd_same]; simp
    · rw [upd_ne _ _ _ _ e]; simp [e]
/-- A step that wakes the first m. -/
theorem good_wake (hwi : WI s) (hsim : ∀ j, j < s.n → Sim (s.ts j) (raw j)) (hi : i < s.n) (hw0 : (s.ts i).wait = 0) {c m : Nat} {s' : S} {t' : T} {x' : RT} (en : s'.n = s.n) (ei : s'.ts i = t') (et : ∀ j, j ≠ i → s'.ts j = if j ∈ (s.conds c).take m then { s.ts j with wait := 2 } else s.ts j)
    (ec : s'.conds = upd s.conds c ((s.conds c).drop m)) (el : ∀ k, -1 ≤ s'.locks k) (ha : t'.acts = (s.ts i).acts) (h0 : t'.wait = 0) (hx : Sim t' x') :
    WI s' ∧ ∀ j, j < s.n → (s'.ts j).acts = (s.ts j).acts ∧ Sim (s'.ts j) (upd (wakeRaw raw ((s.conds c).take m)) i x' j) := by
  have hne : ∀ c j, j ∈ s.conds c → j ≠ i := fun c j hj e => by
    subst e
    have := (hwi.mem c j hj).2.1
    omega
  have hdis : ∀ j, j ∈ (s.conds c).take m → j ∉ (s.conds c).drop m := fun j ha hb => by
    have hnd := hwi.nd c
    rw [← List.take_append_drop m (s.conds c), List.nodup_append] at hnd
    exact hnd.2.2 j ha j hb rfl
  refine ⟨⟨el, fun j hj hw => ?_, fun d j hj => ?_, fun d => ?_⟩, fun j hj => ?_⟩
  · rw [en] at hj
    by_cases e : j = i
    · subst e; rw [ei] at hw; exact absurd h0 hw
    · rw [et j e] at hw ⊢
      by_cases hm : j ∈ (s.conds c).take m
      · rw [if_pos hm]
        have h1 := (hwi.mem c j (List.mem_of_mem_take hm)).2.1
        exact hwi.wt j hj (by omega)
      · rw [if_neg hm] at hw ⊢
        exact hwi.wt j hj hw
  · rw [ec] at hj
    rw [en]
    by_cases e : d = c
    · subst e
      rw [upd_same] at hj
      have hj2 := List.mem_of_mem_drop hj
      rw [et j (hne _ _ hj2), if_neg (fun h => hdis j h hj)]
      exact hwi.mem _ _ hj2
    · rw [upd_ne _ _ _ _ e] at hj
      have h2 := hwi.mem _ _ hj
      rw [et j (hne _ _ hj), if_neg (fun h => e (by
        have h3 := (hwi.mem _ _ (List.mem_of_mem_take h)).2.2
        omega))]
      exact h2
  · rw [ec]
    by_cases e : d = c
    · subst e; rw [upd_same]; exact (hwi.nd d).sublist (List.drop_sublist _ _)
    · rw [upd_ne _ _ _ _ e]; exact hwi.nd d
  · by_cases e : j = i
    · subst e; rw [upd_same, ei]; exact ⟨ha, hx⟩
    · rw [upd_ne _ _ _ _ e, et j e, wakeRaw_at]
      have h := hsim j hj
      by_cases hm : j ∈ (s.conds c).take m
      · rw [if_pos hm, if_pos hm]; exact ⟨rfl, ⟨rfl, h.guard, h.num, h.how, h.at_⟩⟩
      · rw [if_neg hm, if_neg hm]; exact ⟨rfl, h⟩
end
end Go.Proofs.Ytompelilflckkaa
/-
  The document's own run: a step.
-/
namespace Go.Proofs.Ytompelilflckkaa
open Go.RowKit Go.Fl

section
variable {w : World} {base r g o : Nat} {f : Nat → Value} {tv : Value} {vs : Nat → Value} {acts : Nat → List A} {raw : Nat → RT} {s : S} {i L : Nat}
theorem wakeAll_last (s : S) (l : List Nat) : (s.wakeAll l).last = s.last := by
  induction l generalizing s with
  | nil => rfl
  | cons i l ih => exact ih _
theorem kinds {m : Nat} {a : A} (h : okA m a) : ∃ (x y : Nat), a.a = x ∧ a.b = y ∧ x < 8 ∧ y < 8 ∧ (a.kind = 1 ∨ a.kind = 2 ∨ a.kind = 3 ∨ a.kind = 4 ∨ a.kind = 5 ∨ a.kind = 6 ∨ a.kind = 7 ∨ a.kind = 8 ∨ a.kind = 9 ∨ a.kind = 10 ∨ a.kind = 11 ∨ a.kind = 12 ∨ a.kind = 13) ∧ (a.kind = 1 ∨ a.kind = 2 ∨ a.kind = 3 ∨ a.kind = 4 ∨ a.kind = 5 ∨ a.kind = 6 ∨ a.kind = 7 → x < 4) ∧ (a.kind = 3 → y < 4) := by
  unfold okA at h
  refine ⟨a.a.toNat, a.b.toNat, ?_, ?_, ?_, ?_, ?_, ?_, ?_⟩ <;> omega
theorem step2_ok (h : R2 w base r g o f tv vs acts raw s) (hw : WF s L) (hwi : WI s) (hsim : ∀ j, j < s.n → acts j = (s.ts j).acts ∧ Sim (s.ts j) (raw j)) (hi : i < s.n) (hr : how s (s.ts i) = 3) (hL : L ≤ 65536) :
    Calls Try.prog 26 #[.pointer (some ⟨r, 0, none⟩), iv i] w fun e w' => e = .returned (.tuple #[]) ∧ (∃ f' raw', R2 w' base r g o f' tv vs acts raw' (step s i) ∧ WI (step s i) ∧ ∀ j, j < (step s i).n → acts j = ((step s i).ts j).acts ∧ Sim ((step s i).ts j) (raw' j)) ∧ BT base w w' := by
  have hn16 := hw.n
  obtain ⟨hac, hs⟩ := hsim i hi
  obtain ⟨hd, hp⟩ := how_ready hr
  have h0 : (raw i).how = 0 := by rw [hs.how, hd, if_neg (by simp), if_neg (by omega)]
  obtain ⟨_, _, hat⟩ := hs.live h0
  have hl256 : (acts i).length ≤ 256 := by rw [hac]; exact hw.lens i hi
  have hpa : (s.ts i).pc < (acts i).length := by rw [hac]; exact hp
  have hact : (acts i)[(s.ts i).pc] = (s.ts i).act := by
    unfold T.act
    rw [List.getD_eq_getElem?_getD, List.getElem?_eq_getElem hp]
    show _ = (s.ts i).acts[(s.ts i).pc]
    congr 1
  have hok := hw.acts i hi (s.ts i).act (by unfold T.act; rw [List.getD_eq_getElem?_getD, List.getElem?_eq_getElem hp]; exact List.getElem_mem hp)
  have hS : ∀ j, j < s.n → Sim (s.ts j) (raw j) := fun j hj => (hsim j hj).2
  obtain ⟨x, y, ex, ey, hx8, hy8, hk, hx4, hy4⟩ := kinds hok
  obtain ⟨K, hK⟩ : ∃ K, (s.ts i).act.kind = K := ⟨_, rfl⟩
  obtain ⟨n, hn⟩ : ∃ n, (s.ts i).act.n = n := ⟨_, rfl⟩
  have ea : (s.ts i).act = ⟨K, x, y, n⟩ := by rw [← hK, ← ex, ← ey, ← hn]
  rw [ea] at hact hok
  have hwt := hw.wait i hi
  have hq : ∀ c, (s.queues c).length ≤ 65536 := fun c => Nat.le_trans (hw.queues c) hL
  have hcl : ∀ c, (s.conds c).length ≤ 65536 := fun c => Nat.le_trans (hw.conds c).2 hL
  have hin : ∀ c, ∀ j ∈ s.conds c, j < s.n := fun c => (hw.conds c).1
  have hm1 : ∀ c, -1 ≤ s.locks c := hwi.lk
  have up1 : ∀ (k : Nat) (v : Int), -1 ≤ v → ∀ c, -1 ≤ upd s.locks k v c := fun k v hv c => by
    unfold upd; split
    · exact hv
    · exact hm1 c
  -- how the task goes on
  have hwait0 : K ≠ 3 → (s.ts i).wait = 0 := fun h3 => by
    by_cases e : (s.ts i).wait = 0
    · exact e
    · have := (hwi.wt i hi e).2.2
      rw [hK] at this
      exact absurd this h3
  have fin : ∀ {s' : S} {x' : RT} {t' : T} {w' : World} {f' : Nat → Value} {s0 : S}, step s i = s' → R2 w' base r g o f' tv vs acts (upd raw i x') s0 → s'.n = s.n → s'.room = s0.room → s'.locks = s0.locks → s'.conds = s0.conds → s'.queues = s0.queues → s'.regs = s0.regs → s'.last = s0.last → s0.n = s.n → s0.conds = s.conds →
      (s.ts i).wait ≠ 1 → s'.ts = upd s.ts i t' → (∀ k, -1 ≤ s'.locks k) → t'.acts = (s.ts i).acts → t'.wait = 0 → Sim t' x' → ∃ f' raw', R2 w' base r g o f' tv vs acts raw' (step s i) ∧ WI (step s i) ∧ ∀ j, j < (step s i).n → acts j = ((step s i).ts j).acts ∧ Sim ((step s i).ts j) (raw' j) := by
    intro s' x' t' w' f' s0 es hR en er el ec eq eg ela en0 ec0 hw1 et elk hta ht0 hxs
    rw [es]
    obtain ⟨g1, g2⟩ := good_keep hwi hS hi hw1 en et (ec.trans ec0) elk hta ht0 hxs
    refine ⟨f', _, hR.congr (by rw [en, en0]) er el ec eq eg ela, g1, fun j hj => ?_⟩
    rw [en] at hj
    obtain ⟨g3, g4⟩ := g2 j hj
    exact ⟨by rw [g3]; exact (hsim j hj).1, g4⟩
  have simgo : ∀ (A' : Int) (pc' : Nat), (A' = pc' ∨ ((s.ts i).acts.length ≤ pc' ∧ ((s.ts i).acts.length : Int) ≤ A' ∧ A' ≤ (s.ts i).acts.length + 256)) → Sim { s.ts i with pc := pc' } (RT.ended (acts i).length { raw i with at_ := A' }) := fun A' pc' hA => by
    rw [hac]
    exact sim_ended (t := { s.ts i with pc := pc' }) hd h0 hs.wait hs.guard hs.num hA
  have go1 := simgo (((s.ts i).pc : Int) + 1) ((s.ts i).pc + 1) (.inl (by omega))
  have hgd := hs.guard
  have pdie : ∀ {m : Int} {w' : World} {f' : Nat → Value}, step s i = caught (mark s i) i m → (raw i).guard < 0 → (s.ts i).wait = 0 → R2 w' base r g o f' tv vs acts (upd raw i { raw i with how := 2, num := m }) { s with last := (i : Int) } → ∃ f' raw', R2 w' base r g o f' tv vs acts raw' (step s i) ∧ WI (step s i) ∧ ∀ j, j < (step s i).n → acts j = ((step s i).ts j).acts ∧ Sim ((step s i).ts j) (raw' j) := by
    intro m w' f' es hg0 hw0 hR
    have e2 : caught (mark s i) i m = (mark s i).setT i { s.ts i with died := true, num := m } := by
      unfold caught
      rw [if_pos (show ((mark s i).ts i).guard < 0 by show (s.ts i).guard < 0; omega)]
      rfl
    refine fin (es.trans e2) hR rfl rfl rfl rfl rfl rfl rfl rfl rfl (by omega) rfl hm1 rfl hw0 ⟨hs.wait, hs.guard, rfl, ?_, ?_⟩
    · show (2 : Int) = if true = true then 2 else _
      rw [if_pos rfl]
    · exact hs.at_
  have pcau : ∀ {m : Int} {w' : World} {f' : Nat → Value}, step s i = caught (mark s i) i m → 0 ≤ (raw i).guard → (s.ts i).wait = 0 → R2 w' base r g o f' tv vs acts (upd raw i (RT.ended (acts i).length { raw i with at_ := (raw i).guard, guard := -1 })) (S.setReg { s with last := (i : Int) } 7 m) → ∃ f' raw', R2 w' base r g o f' tv vs acts raw' (step s i) ∧ WI (step s i) ∧ ∀ j, j < (step s i).n → acts j = ((step s i).ts j).acts ∧ Sim ((step s i).ts j) (raw' j) := by
    intro m w' f' es hg0 hw0 hR
    have e2 : caught (mark s i) i m = ((mark s i).setT i { s.ts i with pc := (s.ts i).guard.toNat, guard := -1, wait := 0 }).setReg 7 m := by
      unfold caught
      rw [if_neg (show ¬ ((mark s i).ts i).guard < 0 by show ¬ (s.ts i).guard < 0; omega)]
      rfl
    refine fin (es.trans e2) hR rfl rfl rfl rfl rfl rfl rfl rfl rfl (by omega) rfl hm1 rfl rfl ?_
    rw [hac]
    exact sim_ended (t := { s.ts i with pc := (s.ts i).guard.toNat, guard := -1, wait := 0 }) hd h0 (hs.wait.trans hw0) rfl hs.num (.inl (by show (raw i).guard = (((s.ts i).guard.toNat : Nat) : Int); omega))
  rw [hK] at hk hx4 hy4
  have err : ∀ {m : Int}, doM (mark s i) i = .error m → step s i = caught (mark s i) i m := fun {m} e => by
    unfold step
    rw [e]
  have eam : ((mark s i).ts i).act = ⟨K, x, y, n⟩ := ea
  unfold okA at hok
  dsimp only at hok
  rcases hk with rfl | rfl | rfl | rfl | rfl | rfl | rfl | rfl | rfl | rfl | rfl | rfl | rfl
  · obtain rfl : y = 0 := by omega
    obtain rfl : n = 0 := by omega
    refine (st_lock h hn16 hl256 hi hpa hat hact (by omega)).mono fun e w' he => ⟨he.1, ?_, he.2.2⟩
    obtain ⟨f', hR⟩ := he.2.1
    exact fin (step_lock ea) hR rfl rfl rfl rfl rfl rfl rfl rfl rfl (by have := hwait0 (by omega); omega) rfl (up1 x i (by omega)) rfl (hwait0 (by omega)) go1
  · obtain rfl : y = 0 := by omega
    obtain rfl : n = 0 := by omega
    have hw0 := hwait0 (by omega)
    by_cases hlk : s.locks x = i
    · refine (st_unlock h hn16 hl256 hi hpa hat hact (by omega) hlk).mono fun e w' he => ⟨he.1, ?_, he.2.2⟩
      obtain ⟨f', hR⟩ := he.2.1
      exact fin (step_unlock ea hlk) hR rfl rfl rfl rfl rfl rfl rfl rfl rfl (by omega) rfl (up1 x (-1) (by omega)) rfl hw0 go1
    · have es := err (m := -1) (by
        unfold doM; rw [eam]; dsimp only
        rw [if_neg (by omega), if_pos rfl, if_neg (show ¬ (mark s i).locks (x : Int).toNat = i from hlk)])
      by_cases hg0 : (raw i).guard < 0
      · refine (st_free_die h hn16 hl256 hi hpa hat hact (by omega) hlk hg0).mono fun e w' he => ⟨he.1, ?_, he.2.2⟩
        obtain ⟨f', hR⟩ := he.2.1
        exact pdie es hg0 hw0 hR
      · refine (st_free_caught h hn16 hl256 hi hpa hat hact (by omega) hlk (by omega)).mono fun e w' he => ⟨he.1, ?_, he.2.2⟩
        obtain ⟨f', hR⟩ := he.2.1
        exact pcau es (by omega) hw0 hR
  · obtain rfl : n = 0 := by omega
    have hrw := hs.wait
    have hw1 : (s.ts i).wait ≠ 1 := fun e => by
      unfold how at hr
      rw [if_neg (by rw [hd]; simp), if_neg (by omega), ea, if_neg (by omega), if_pos ⟨rfl, e⟩] at hr
      omega
    by_cases hw2 : (s.ts i).wait = 2
    · refine (st_wait_two h hn16 hl256 hi hpa hat hact (by omega) (by omega)).mono fun e w' he => ⟨he.1, ?_, he.2.2⟩
      obtain ⟨f', hR⟩ := he.2.1
      have et : ((((mark s i).setT i { s.ts i with wait := 0 }).setLock y i).go i).ts = upd s.ts i { s.ts i with wait := 0, pc := (s.ts i).pc + 1 } := by
        show upd (upd s.ts i { s.ts i with wait := 0 }) i { (upd s.ts i { s.ts i with wait := 0 }) i with pc := ((upd s.ts i { s.ts i with wait := 0 }) i).pc + 1 } = _
        rw [upd_same, upd_upd]
      refine fin (step_woken ea hw2) hR rfl rfl rfl rfl rfl rfl rfl rfl rfl hw1 et (up1 y i (by omega)) rfl rfl ?_
      rw [hac]
      exact sim_ended (t := { s.ts i with wait := 0, pc := (s.ts i).pc + 1 }) hd h0 rfl hs.guard hs.num (.inl (by show (((s.ts i).pc : Int) + 1) = (((s.ts i).pc + 1 : Nat) : Int); omega))
    · have hw0 : (s.ts i).wait = 0 := by omega
      by_cases hlk : s.locks y = i
      · refine (st_wait_one h hn16 hl256 hi hpa hat hact (by omega) (by omega) (by omega) hlk (hcl x)).mono fun e w' he => ⟨he.1, ?_, he.2.2⟩
        obtain ⟨f', hR⟩ := he.2.1
        have es := step_wait ea hw0 hlk
        obtain ⟨g1, g2⟩ := good_wait (x := x) (s' := (((mark s i).setLock y (-1)).setT i { s.ts i with wait := 1 }).setCond x (s.conds x ++ [i])) hwi hS hi hw0 rfl rfl rfl (up1 y (-1) (by omega)) hd hp (by rw [ea]) (by rw [ea]; rfl)
        rw [es]
        refine ⟨f', _, hR.congr rfl rfl rfl rfl rfl rfl rfl, g1, fun j hj => ?_⟩
        obtain ⟨g3, g4⟩ := g2 j hj
        exact ⟨by rw [show ((((mark s i).setLock (y : Int).toNat (-1)).setT i { s.ts i with wait := 1 }).setCond (x : Int).toNat (s.conds (x : Int).toNat ++ [i])).ts j = ((((mark s i).setLock y (-1)).setT i { s.ts i with wait := 1 }).setCond x (s.conds x ++ [i])).ts j from rfl, g3]; exact (hsim j hj).1, g4⟩
      · have es := err (m := -1) (by
          unfold doM; rw [eam]; dsimp only
          rw [if_neg (by omega), if_neg (by omega), if_pos rfl, if_pos (show ((mark s i).ts i).wait = 0 from hw0), if_neg (show ¬ (mark s i).locks (y : Int).toNat = i from hlk)])
        by_cases hg0 : (raw i).guard < 0
        · refine (st_wait_die h hn16 hl256 hi hpa hat hact (by omega) (by omega) hlk hg0).mono fun e w' he => ⟨he.1, ?_, he.2.2⟩
          obtain ⟨f', hR⟩ := he.2.1
          exact pdie es hg0 hw0 hR
        · refine (st_wait_caught h hn16 hl256 hi hpa hat hact (by omega) (by omega) hlk (by omega)).mono fun e w' he => ⟨he.1, ?_, he.2.2⟩
          obtain ⟨f', hR⟩ := he.2.1
          exact pcau es (by omega) hw0 hR
  · obtain rfl : y = 0 := by omega
    obtain rfl : n = 0 := by omega
    have hw0 := hwait0 (by omega)
    have hlen := hwi.len x
    refine (st_signal h hn16 hl256 hi hpa hat hact (by omega) (hcl x) (hin x)).mono fun e w' he => ⟨he.1, ?_, he.2.2⟩
    obtain ⟨f', hR⟩ := he.2.1
    have et1 : (s.conds x).take (min 1 (s.conds x).length) = (s.conds x).take 1 := by
      cases s.conds x <;> simp
    have et2 : (s.conds x).drop (min 1 (s.conds x).length) = (s.conds x).drop 1 := by
      cases s.conds x <;> simp
    have hni : i ∉ (s.conds x).take 1 := fun hm => by
      have := (hwi.mem x i (List.mem_of_mem_take hm)).2.1
      omega
    have hra : wakeRaw raw ((s.conds x).take 1) i = raw i := by rw [wakeRaw_at, if_neg hni]
    rw [hra] at hR
    have es : step s i = ((mark s i).wake x (min 1 (s.conds x).length)).go i := step_signal ea
    have hu : ∀ j, ((mark s i).wakeAll ((s.conds x).take (min 1 (s.conds x).length))).ts j = if j ∈ (s.conds x).take 1 then { s.ts j with wait := 2 } else s.ts j := fun j => by
      rw [wakeAll_ts, et1]; rfl
    obtain ⟨w1, w2, w3, w4⟩ := wakeAll_rest (mark s i) ((s.conds x).take (min 1 (s.conds x).length))
    have w5 := wakeAll_n (mark s i) ((s.conds x).take (min 1 (s.conds x).length))
    have w6 := wakeAll_conds (mark s i) ((s.conds x).take (min 1 (s.conds x).length))
    have w7 : ((mark s i).wakeAll ((s.conds x).take (min 1 (s.conds x).length))).last = (i : Int) := wakeAll_last _ _
    obtain ⟨g1, g2⟩ := good_wake (m := 1) (c := x) (s' := ((mark s i).wake x (min 1 (s.conds x).length)).go i) (t' := { s.ts i with pc := (s.ts i).pc + 1 }) hwi hS hi hw0 w5 (by
      rw [go_at]
      show ({ ((mark s i).wakeAll ((s.conds x).take (min 1 (s.conds x).length))).ts i with pc := (((mark s i).wakeAll ((s.conds x).take (min 1 (s.conds x).length))).ts i).pc + 1 } : T) = _
      rw [hu i, if_neg hni]) (fun j hj => by
      rw [go_ne _ hj]
      exact hu j) (by
      show upd ((mark s i).wakeAll ((s.conds x).take (min 1 (s.conds x).length))).conds x ((s.conds x).drop (min 1 (s.conds x).length)) = _
      rw [w6, et2]; rfl) (fun k => by
      show -1 ≤ ((mark s i).wakeAll ((s.conds x).take (min 1 (s.conds x).length))).locks k
      rw [w2]; exact hm1 k) rfl hw0 go1
    rw [es]
    refine ⟨f', _, hR.congr w5 w1 w2 (by
      show upd ((mark s i).wakeAll ((s.conds x).take (min 1 (s.conds x).length))).conds x ((s.conds x).drop (min 1 (s.conds x).length)) = upd s.conds x _
      rw [w6, et2]; rfl) w3 w4 w7, g1, fun j hj => ?_⟩
    have hj : j < s.n := by
      have e : (((mark s i).wake x (min 1 (s.conds x).length)).go i).n = s.n := w5
      rw [e] at hj; exact hj
    obtain ⟨g3, g4⟩ := g2 j hj
    exact ⟨by rw [g3]; exact (hsim j hj).1, g4⟩
  · obtain rfl : y = 0 := by omega
    obtain rfl : n = 0 := by omega
    have hw0 := hwait0 (by omega)
    have hlen := hwi.len x
    refine (st_cast h hn16 hl256 hi hpa hat hact (by omega) (hcl x) (hin x)).mono fun e w' he => ⟨he.1, ?_, he.2.2⟩
    obtain ⟨f', hR⟩ := he.2.1
    have et1 : (s.conds x).take ((s.conds x).length) = (s.conds x).take 16 := by
      rw [List.take_of_length_le (Nat.le_refl _), List.take_of_length_le (by omega)]
    have et2 : (s.conds x).drop ((s.conds x).length) = (s.conds x).drop 16 := by
      rw [List.drop_of_length_le (Nat.le_refl _), List.drop_of_length_le (by omega)]
    have hni : i ∉ (s.conds x).take 16 := fun hm => by
      have := (hwi.mem x i (List.mem_of_mem_take hm)).2.1
      omega
    have hra : wakeRaw raw ((s.conds x).take 16) i = raw i := by rw [wakeRaw_at, if_neg hni]
    rw [hra] at hR
    have es : step s i = ((mark s i).wake x ((s.conds x).length)).go i := step_cast ea
    have hu : ∀ j, ((mark s i).wakeAll ((s.conds x).take ((s.conds x).length))).ts j = if j ∈ (s.conds x).take 16 then { s.ts j with wait := 2 } else s.ts j := fun j => by
      rw [wakeAll_ts, et1]; rfl
    obtain ⟨w1, w2, w3, w4⟩ := wakeAll_rest (mark s i) ((s.conds x).take ((s.conds x).length))
    have w5 := wakeAll_n (mark s i) ((s.conds x).take ((s.conds x).length))
    have w6 := wakeAll_conds (mark s i) ((s.conds x).take ((s.conds x).length))
    have w7 : ((mark s i).wakeAll ((s.conds x).take ((s.conds x).length))).last = (i : Int) := wakeAll_last _ _
    obtain ⟨g1, g2⟩ := good_wake (m := 16) (c := x) (s' := ((mark s i).wake x ((s.conds x).length)).go i) (t' := { s.ts i with pc := (s.ts i).pc + 1 }) hwi hS hi hw0 w5 (by
      rw [go_at]
      show ({ ((mark s i).wakeAll ((s.conds x).take ((s.conds x).length))).ts i with pc := (((mark s i).wakeAll ((s.conds x).take ((s.conds x).length))).ts i).pc + 1 } : T) = _
      rw [hu i, if_neg hni]) (fun j hj => by
      rw [go_ne _ hj]
      exact hu j) (by
      show upd ((mark s i).wakeAll ((s.conds x).take ((s.conds x).length))).conds x ((s.conds x).drop ((s.conds x).length)) = _
      rw [w6, et2]; rfl) (fun k => by
      show -1 ≤ ((mark s i).wakeAll ((s.conds x).take ((s.conds x).length))).locks k
      rw [w2]; exact hm1 k) rfl hw0 go1
    rw [es]
    refine ⟨f', _, hR.congr w5 w1 w2 (by
      show upd ((mark s i).wakeAll ((s.conds x).take ((s.conds x).length))).conds x ((s.conds x).drop ((s.conds x).length)) = upd s.conds x _
      rw [w6, et2]; rfl) w3 w4 w7, g1, fun j hj => ?_⟩
    have hj : j < s.n := by
      have e : (((mark s i).wake x ((s.conds x).length)).go i).n = s.n := w5
      rw [e] at hj; exact hj
    obtain ⟨g3, g4⟩ := g2 j hj
    exact ⟨by rw [g3]; exact (hsim j hj).1, g4⟩
  · obtain rfl : y = 0 := by omega
    have hw0 := hwait0 (by omega)
    refine (st_put h hn16 hl256 hi hpa hat hact (by omega) (hq x)).mono fun e w' he => ⟨he.1, ?_, he.2.2⟩
    obtain ⟨f', hR⟩ := he.2.1
    exact fin (step_put ea) hR rfl rfl rfl rfl rfl rfl rfl rfl rfl (by omega) rfl hm1 rfl hw0 go1
  · obtain rfl : n = 0 := by omega
    have hw0 := hwait0 (by omega)
    have hne : s.queues x ≠ [] := fun e => by
      unfold how at hr
      rw [if_neg (by rw [hd]; simp), if_neg (by omega), ea] at hr
      dsimp only at hr
      rw [if_neg (by omega), if_neg (by omega), if_neg (by omega), if_pos ⟨rfl, e⟩] at hr
      omega
    obtain ⟨v0, q, hvq⟩ : ∃ v0 q, s.queues x = v0 :: q := by
      cases e : s.queues x with
      | nil => exact absurd e hne
      | cons v0 q => exact ⟨v0, q, rfl⟩
    refine (st_take h hn16 hl256 hi hpa hat hact (by omega) hy8 hvq (by have := hq x; rw [hvq, List.length_cons] at this; omega)).mono fun e w' he => ⟨he.1, ?_, he.2.2⟩
    obtain ⟨f', hR⟩ := he.2.1
    have es : step s i = (((mark s i).setReg y v0).setQueue x q).go i := by
      rw [step_take ea]
      show (((mark s i).setReg y ((s.queues x).getD 0 0)).setQueue x ((s.queues x).drop 1)).go i = _
      rw [hvq]; rfl
    exact fin es hR rfl rfl rfl rfl rfl rfl rfl rfl rfl (by omega) rfl hm1 rfl hw0 go1
  · obtain rfl : y = 0 := by omega
    have hw0 := hwait0 (by omega)
    refine (st_add h hn16 hl256 hi hpa hat hact hx8).mono fun e w' he => ⟨he.1, ?_, he.2.2⟩
    obtain ⟨f', hR⟩ := he.2.1
    exact fin (step_add ea) hR rfl rfl rfl rfl rfl rfl rfl rfl rfl (by omega) rfl hm1 rfl hw0 go1
  · obtain rfl : n = 0 := by omega
    have hw0 := hwait0 (by omega)
    refine (st_copy h hn16 hl256 hi hpa hat hact hx8 hy8).mono fun e w' he => ⟨he.1, ?_, he.2.2⟩
    obtain ⟨f', hR⟩ := he.2.1
    exact fin (step_copy ea) hR rfl rfl rfl rfl rfl rfl rfl rfl rfl (by omega) rfl hm1 rfl hw0 go1
  · obtain rfl : y = 0 := by omega
    have hw0 := hwait0 (by omega)
    by_cases hz0 : s.regs x = 0
    · refine (st_skip h hn16 hl256 hi hpa hat hact hx8 (by omega) (by omega) hz0).mono fun e w' he => ⟨he.1, ?_, he.2.2⟩
      obtain ⟨f', hR⟩ := he.2.1
      have es : step s i = ((mark s i).setT i { s.ts i with pc := min ((s.ts i).pc + n.toNat) (s.ts i).acts.length }).go i := by
        unfold step
        rw [show doM (mark s i) i = .ok (((mark s i).setT i { s.ts i with pc := min ((s.ts i).pc + n.toNat) (s.ts i).acts.length }).go i) by
          unfold doM; rw [eam]; dsimp only
          rw [if_neg (by omega), if_neg (by omega), if_neg (by omega), if_neg (by omega), if_neg (by omega), if_neg (by omega), if_neg (by omega), if_neg (by omega), if_neg (by omega), if_pos rfl, if_pos (show (mark s i).regs (x : Int).toNat = 0 from hz0)]
          rfl]
      have et : (((mark s i).setT i { s.ts i with pc := min ((s.ts i).pc + n.toNat) (s.ts i).acts.length }).go i).ts = upd s.ts i { s.ts i with pc := min ((s.ts i).pc + n.toNat) (s.ts i).acts.length + 1 } := by
        show upd (upd s.ts i _) i { (upd s.ts i { s.ts i with pc := min ((s.ts i).pc + n.toNat) (s.ts i).acts.length }) i with pc := ((upd s.ts i { s.ts i with pc := min ((s.ts i).pc + n.toNat) (s.ts i).acts.length }) i).pc + 1 } = _
        rw [upd_same, upd_upd]
      exact fin es hR rfl rfl rfl rfl rfl rfl rfl rfl rfl (by omega) et hm1 rfl hw0 (simgo (((s.ts i).pc : Int) + 1 + n) (min ((s.ts i).pc + n.toNat) (s.ts i).acts.length + 1) (by omega))
    · refine (st_skip_go h hn16 hl256 hi hpa hat hact hx8 (by omega) (by omega) hz0).mono fun e w' he => ⟨he.1, ?_, he.2.2⟩
      obtain ⟨f', hR⟩ := he.2.1
      have es : step s i = (mark s i).go i := by
        unfold step
        rw [show doM (mark s i) i = .ok ((mark s i).go i) by
          unfold doM; rw [eam]; dsimp only
          rw [if_neg (by omega), if_neg (by omega), if_neg (by omega), if_neg (by omega), if_neg (by omega), if_neg (by omega), if_neg (by omega), if_neg (by omega), if_neg (by omega), if_pos rfl, if_neg (show ¬ (mark s i).regs (x : Int).toNat = 0 from hz0)]]
      exact fin es hR rfl rfl rfl rfl rfl rfl rfl rfl rfl (by omega) rfl hm1 rfl hw0 go1
  · obtain rfl : y = 0 := by omega
    obtain rfl : n = 0 := by omega
    obtain rfl : x = 0 := by omega
    have hw0 := hwait0 (by omega)
    refine (st_yield h hn16 hl256 hi hpa hat hact).mono fun e w' he => ⟨he.1, ?_, he.2.2⟩
    obtain ⟨f', hR⟩ := he.2.1
    exact fin (step_yield ea) hR rfl rfl rfl rfl rfl rfl rfl rfl rfl (by omega) rfl hm1 rfl hw0 go1
  · have hw0 := hwait0 (by omega)
    have es := err (m := n) (by
      unfold doM; rw [eam]; dsimp only
      rw [if_neg (by omega), if_neg (by omega), if_neg (by omega), if_neg (by omega), if_neg (by omega), if_neg (by omega), if_neg (by omega), if_neg (by omega), if_neg (by omega), if_neg (by omega), if_pos rfl])
    by_cases hg0 : (raw i).guard < 0
    · refine (st_panic_die h hn16 hl256 hi hpa hat hact hg0).mono fun e w' he => ⟨he.1, ?_, he.2.2⟩
      obtain ⟨f', hR⟩ := he.2.1
      exact pdie es hg0 hw0 hR
    · refine (st_panic_caught h hn16 hl256 hi hpa hat hact (by omega)).mono fun e w' he => ⟨he.1, ?_, he.2.2⟩
      obtain ⟨f', hR⟩ := he.2.1
      exact pcau es (by omega) hw0 hR
  · have hw0 := hwait0 (by omega)
    refine (st_guard h hn16 hl256 hi hpa hat hact).mono fun e w' he => ⟨he.1, ?_, he.2.2⟩
    obtain ⟨f', hR⟩ := he.2.1
    have es : step s i = ((mark s i).setT i { s.ts i with guard := n }).go i := by
      unfold step
      rw [show doM (mark s i) i = .ok (((mark s i).setT i { s.ts i with guard := n }).go i) by
        unfold doM; rw [eam]; dsimp only
        rw [if_neg (by omega), if_neg (by omega), if_neg (by omega), if_neg (by omega), if_neg (by omega), if_neg (by omega), if_neg (by omega), if_neg (by omega), if_neg (by omega), if_neg (by omega), if_neg (by omega), if_pos rfl]
        rfl]
    have et : (((mark s i).setT i { s.ts i with guard := n }).go i).ts = upd s.ts i { s.ts i with guard := n, pc := (s.ts i).pc + 1 } := by
      show upd (upd s.ts i { s.ts i with guard := n }) i { (upd s.ts i { s.ts i with guard := n }) i with pc := ((upd s.ts i { s.ts i with guard := n }) i).pc + 1 } = _
      rw [upd_same, upd_upd]
    refine fin es hR rfl rfl rfl rfl rfl rfl rfl rfl rfl (by omega) et hm1 rfl hw0 ?_
    rw [hac]
    exact sim_ended (t := { s.ts i with guard := n, pc := (s.ts i).pc + 1 }) hd h0 hs.wait rfl hs.num (.inl (by show (((s.ts i).pc : Int) + 1) = (((s.ts i).pc + 1 : Nat) : Int); omega))
end
end Go.Proofs.Ytompelilflckkaa
