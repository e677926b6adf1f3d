/-
  The disk without faults, in plain words; contracts on it.
-/
import Derived.Test.YthekilgolelomaaDx
set_option linter.unusedSimpArgs false
set_option linter.unusedVariables false
namespace Go.Proofs.Ythekilgolelomaa
open Go.RowKit Go.Fl

theorem Sr.off0 {w : World} {size n : Nat} {v : Value} {xs : List Value} {F : Nat → Prop} (h : Sr w size v n xs) (hF : ∀ k, F k → w.heap.size ≤ k) : Off F v n := fun hn g hg hg2 => by
  obtain ⟨h1, a, cap, rfl, h2, h3, h4⟩ := h
  obtain ⟨g', off, rfl, hg', _⟩ := h4 hn
  injection hg with hg
  have e : g' = g := hg
  have := hF g hg2
  omega
theorem no_flt {p : PD} (h : p.faults = []) (k : OpK) : (p.op k).flt = (0, 0, 0) := by
  unfold PD.flt
  show (p.faults.find? _).getD _ = _
  rw [h]
  rfl
/-- A disk without faults. -/
structure CS (p : PD) (m : Int) (now last : Dir) (pend : List Chg) : Prop where
  up : p.up = true
  most : p.most = m
  flt : p.faults = []
  now : p.now = now
  last : p.last = last
  pend : p.pend = pend
section
variable {p : PD} {fs : Nat → FD} {m : Int} {now last : Dir} {pend : List Chg} {s : Nm} {f : Nat}
theorem CS.calm (h : CS p m now last pend) : p.calm := calm_nil h.flt
theorem CS.op (h : CS p m now last pend) (k : OpK) : CS (p.op k) m now last pend := ⟨h.up, h.most, h.flt, h.now, h.last, h.pend⟩
theorem CS.find (h : CS p m now last pend) (hs : mayB s = true) : findR p s = match now.get s with
    | some f => (some f, 0)
    | none => (none, 6) := by
  unfold findR
  rw [h.up, hs, h.now]
  rfl
theorem CS.find_some (h : CS p m now last pend) (hs : mayB s = true) (hf : now.get s = some f) : findR p s = (some f, 0) := by rw [h.find hs, hf]
theorem CS.create (h : CS p m now last pend) (hs : mayB s = true) (hf : now.get s = none) (hl : now.length < 256) (f : Nat) : ∃ p', p.create s f = (0, p', true) ∧ CS p' m (now.put s f) last (pend ++ [.cr s f]) := by
  refine ⟨(p.op .cr).chg (.cr s f), ?_, h.up, h.most, h.flt, ?_, h.last, ?_⟩
  · unfold PD.create
    rw [h.find hs, hf, no_flt h.flt, h.now]
    dsimp only
    rw [if_neg (by decide), if_neg (by decide), if_neg (by omega), if_pos rfl]
  · show p.now.put s f = _
    rw [h.now]
  · show p.pend ++ [_] = _
    rw [h.pend]
theorem CS.append (h : CS p m now last pend) (hs : mayB s = true) (hf : now.get s = some f) {data : List UInt8} (hr : (data.length : Int) ≤ m - lens fs now) :
    ∃ p', p.append fs s data = (((data.length : Int), 0), p', upd fs f { fs f with b := (fs f).b ++ data }) ∧ CS p' m now last pend := by
  have h1 : p.fit fs data.length = data.length := by
    unfold PD.fit PD.room
    rw [no_flt h.flt, h.most, h.now]
    simp
    omega
  refine ⟨(((p.op .ap).byte data.length).bef (p.op .ap).flt), ?_, ?_⟩
  · unfold PD.append
    rw [h.find_some hs hf]
    dsimp only
    rw [h1]
    refine Prod.ext (Prod.ext rfl ?_) (Prod.ext rfl ?_)
    · show appR _ _ _ = 0
      rw [no_flt h.flt]
      unfold appR befR
      simp
    · show upd fs f _ = upd fs f _
      simp
  · rw [no_flt h.flt]
    exact ⟨h.up, h.most, h.flt, h.now, h.last, h.pend⟩
theorem CS.sync (h : CS p m now last pend) (hs : mayB s = true) (hf : now.get s = some f) : ∃ p', p.sync fs s = (0, p', upd fs f (fs f).sync) ∧ CS p' m now last pend := by
  refine ⟨p.op .sy, ?_, h.op .sy⟩
  unfold PD.sync
  rw [h.find_some hs hf, no_flt h.flt]
  rfl
theorem CS.sdir (h : CS p m now last pend) (hk : doAll last pend = now) : ∃ p', p.sdir = (0, p') ∧ CS p' m now now [] := by
  refine ⟨(p.op .ds).settle, ?_, h.up, h.most, h.flt, h.now, ?_, rfl⟩
  · unfold PD.sdir
    rw [h.up, no_flt h.flt]
    rfl
  · show doAll p.last p.pend = now
    rw [h.last, h.pend, hk]
theorem CS.rename (h : CS p m now last pend) {t : Nm} (hs : mayB s = true) (ht : mayB t = true) (hf : now.get s = some f) (hne : s ≠ t) : ∃ p', p.rename s t = (0, p') ∧ CS p' m ((now.del s).put t f) last (pend ++ [.rn s t]) := by
  refine ⟨(p.op .rn).chg (.rn s t), ?_, h.up, h.most, h.flt, ?_, h.last, ?_⟩
  · unfold PD.rename PD.chg0
    rw [h.find_some hs hf, ht, no_flt h.flt]
    dsimp only
    rw [if_neg (by simp), if_neg (by simp), if_neg (by simp), if_neg hne, if_pos (.inl rfl)]
  · show (match p.now.get s with | some f => (p.now.del s).put t f | none => p.now) = _
    rw [h.now, hf]
  · show p.pend ++ [_] = _
    rw [h.pend]
theorem CS.crash (h : CS p m now last pend) (D : Dir) : CS (p.crash D) m D D [] := ⟨rfl, h.most, rfl, rfl, rfl, rfl⟩
theorem CS.after (h : CS p m now last pend) (n : Int) : p.after n = doAll last (pend.take n.toNat) := by
  unfold PD.after
  rw [h.last, h.pend]
theorem CS.size (h : CS p m now last pend) (hs : mayB s = true) (hf : now.get s = some f) : p.size fs s = (((fs f).b.length : Int), 0) := by
  unfold PD.size
  rw [h.find_some hs hf]
theorem CS.read (h : CS p m now last pend) (hs : mayB s = true) (hf : now.get s = some f) {o n : Nat} (hb : o + n ≤ (fs f).b.length) : p.read fs s o n = (((fs f).b.drop o).take n, 0) := by
  unfold PD.read
  rw [h.find_some hs hf]
  dsimp only
  rw [if_neg (by omega)]
  simp
theorem CS.list (h : CS p m now last pend) : p.list = (now.map (·.1), 0) := by
  unfold PD.list
  rw [h.up, h.now]
  rfl
end
/-- A disk without faults, a call's own. -/
def OC (w wr : World) (d : Nat) (m : Int) (now last : Dir) (pend : List Chg) (fs : Nat → FD) : Prop := ∃ F p ids, Own w wr F d p fs ids ∧ CS p m now last pend
section
variable {w wr w' : World} {d : Nat} {m : Int} {now last : Dir} {pend : List Chg} {fs : Nat → FD} {s : Nm} {f : Nat}
theorem OC.quiet (h : OC w wr d m now last pend fs) (ho : Only [] wr w') : OC w w' d m now last pend fs := by
  obtain ⟨F, p, ids, h1, h2⟩ := h
  exact ⟨F, p, ids, h1.quiet ho, h2⟩
theorem OC.only (h : OC w wr d m now last pend fs) : Only [] w wr := by
  obtain ⟨F, p, ids, h1, h2⟩ := h
  exact h1.only
theorem OC.ok (h : OC w wr d m now last pend fs) : Dir.Srt now ∧ doAll last pend = now ∧ now.length ≤ 256 ∧ (∀ x ∈ now, (fs x.2).Ok) ∧ ∀ x ∈ last, (fs x.2).Ok := by
  obtain ⟨F, p, ids, h1, h2⟩ := h
  obtain ⟨⟨nb, lb, pv, fv, bv, lv, hd⟩, _⟩ := h1.dk
  have hk := hd.ok
  rw [← h2.now, ← h2.last, ← h2.pend]
  exact ⟨hk.snow, hk.go, hk.len.1, fun x hx => (hd.fs.file _ (hd.live.now x hx)).ok, fun x hx => (hd.fs.file _ (hd.live.last x hx)).ok⟩
theorem oc_new (w wr : World) (ho : Only [] w wr) (m : Int) (h : 0 ≤ m) (h2 : m ≤ 16777216) : Calls Try.prog 7 #[iv m] wr fun e w' => ∃ d, e = .returned (cp d) ∧ OC w w' d m [] [] [] (fun _ => ⟨[], [], 0⟩) := by
  refine (new_ok wr m h h2).mono ?_
  rintro e w' ⟨rfl, ha⟩
  exact ⟨_, rfl, _, _, _, Own.new ho ha, rfl, rfl, rfl, rfl, rfl, rfl⟩
theorem oc_create (h : OC w wr d m now last pend fs) (hp : pend.length ≤ 1048576) (hs : mayB s = true) (hf : now.get s = none) (hl : now.length < 256) : Calls Try.prog 9 #[cp d, sk s] wr fun e w' =>
    e = .returned (iv 0) ∧ ∃ f, OC w w' d m (now.put s f) last (pend ++ [.cr s f]) (upd fs f ⟨[], [], 0⟩) ∧ (∀ x ∈ now, x.2 ≠ f) ∧ ∀ x ∈ last, x.2 ≠ f := by
  obtain ⟨F, p, ids, h1, h2⟩ := h
  refine (create_ok h1.dk h2.calm (by rw [h2.pend]; exact hp) s).mono ?_
  rintro e w' ⟨f, hfr, rfl, ha⟩
  obtain ⟨p', e, hc⟩ := h2.create hs hf hl f
  rw [e] at ha ⊢
  obtain ⟨⟨nb, lb, pv, fv, bv, lv, hd⟩, _⟩ := h1.dk
  refine ⟨rfl, f, ⟨_, p', _, h1.step ha, hc⟩, fun x hx e2 => ?_, fun x hx e2 => ?_⟩
  · have := (hd.fs.file _ (hd.live.now x (by rw [h2.now]; exact hx))).blk.lt
    omega
  · have := (hd.fs.file _ (hd.live.last x (by rw [h2.last]; exact hx))).blk.lt
    omega
theorem oc_append (h : OC w wr d m now last pend fs) (hs : mayB s = true) (hf : now.get s = some f) {data : List UInt8} {v : Value} (hv : Sr w 1 v data.length (byV data)) (hl : data.length ≤ 1048576) (hr : (data.length : Int) ≤ m - lens fs now) :
    Calls Try.prog 10 #[cp d, sk s, v] wr fun e w' => e = .returned (.tuple #[iv data.length, iv 0]) ∧ OC w w' d m now last pend (upd fs f { fs f with b := (fs f).b ++ data }) := by
  obtain ⟨F, p, ids, h1, h2⟩ := h
  obtain ⟨p', e0, hc⟩ := h2.append (fs := fs) hs hf hr
  refine (append_ok h1.dk h2.calm s (hv.only0 h1.only) (Go.Proofs.Ythekilgolelomaa.Sr.off0 hv h1.own) hl).mono ?_
  rintro e w' ⟨rfl, ha⟩
  rw [e0] at ha ⊢
  exact ⟨rfl, _, p', _, h1.step ha, hc⟩
theorem oc_sync (h : OC w wr d m now last pend fs) (hs : mayB s = true) (hf : now.get s = some f) : Calls Try.prog 11 #[cp d, sk s] wr fun e w' => e = .returned (iv 0) ∧ OC w w' d m now last pend (upd fs f (fs f).sync) := by
  obtain ⟨F, p, ids, h1, h2⟩ := h
  obtain ⟨p', e0, hc⟩ := h2.sync (fs := fs) hs hf
  refine (syncD_ok h1.dk h2.calm s).mono ?_
  rintro e w' ⟨rfl, ha⟩
  rw [e0] at ha ⊢
  exact ⟨rfl, _, p', _, h1.step ha, hc⟩
theorem oc_sdir (h : OC w wr d m now last pend fs) (hp : pend.length ≤ 1048576) : Calls Try.prog 14 #[cp d] wr fun e w' => e = .returned (iv 0) ∧ OC w w' d m now now [] fs := by
  have hk := h.ok.2.1
  obtain ⟨F, p, ids, h1, h2⟩ := h
  obtain ⟨p', e0, hc⟩ := h2.sdir hk
  refine (syncdir_ok h1.dk h2.calm (by rw [h2.pend]; exact hp)).mono ?_
  rintro e w' ⟨rfl, ha⟩
  rw [e0] at ha ⊢
  exact ⟨rfl, _, p', _, h1.step ha, hc⟩
theorem oc_rename (h : OC w wr d m now last pend fs) (hp : pend.length ≤ 1048576) {t : Nm} (hs : mayB s = true) (ht : mayB t = true) (hf : now.get s = some f) (hne : s ≠ t) : Calls Try.prog 12 #[cp d, sk s, sk t] wr fun e w' =>
    e = .returned (iv 0) ∧ OC w w' d m ((now.del s).put t f) last (pend ++ [.rn s t]) fs := by
  obtain ⟨F, p, ids, h1, h2⟩ := h
  obtain ⟨p', e0, hc⟩ := h2.rename hs ht hf hne
  refine (rename_ok h1.dk h2.calm (by rw [h2.pend]; exact hp) s t).mono ?_
  rintro e w' ⟨rfl, ha⟩
  rw [e0] at ha ⊢
  exact ⟨rfl, _, p', _, h1.step ha, hc⟩
theorem KS.off0 {w : World} {v : Value} {l : List Kp} {F : Nat → Prop} (h : KS w v l) (hF : ∀ k, F k → w.heap.size ≤ k) : KOff F v l := ⟨Go.Proofs.Ythekilgolelomaa.Sr.off0 h.1 hF, fun x hx => Go.Proofs.Ythekilgolelomaa.Sr.off0 (h.2 x hx) hF⟩
theorem oc_crash (h : OC w wr d m now last pend fs) (hp : pend.length ≤ 1048576) (dn : Int) {kv : Value} {kj : List Kp} (hk : KS w kv kj) : Calls Try.prog 21 #[cp d, .agg #[iv dn, kv]] wr fun e w' =>
    e = .returned (.tuple #[]) ∧ ∃ D fs', OC w w' d m D D [] fs' ∧ view fs' D = crashV fs (kpat kj) (doAll last (pend.take dn.toNat)) := by
  obtain ⟨F, p, ids, h1, h2⟩ := h
  refine (crash_ok h1.dk (by rw [h2.pend]; exact hp) dn (hk.only0 h1.only) (hk.off0 h1.own)).mono ?_
  rintro e w' ⟨rfl, D, fs', ids', ha, hv, _, _⟩
  rw [h2.after] at hv
  exact ⟨rfl, D, fs', ⟨_, _, _, h1.step ha, h2.crash D⟩, hv⟩
theorem oc_size (h : OC w wr d m now last pend fs) (hs : mayB s = true) (hf : now.get s = some f) : Calls Try.prog 19 #[cp d, sk s] wr fun e w' => e = .returned (.tuple #[iv (fs f).b.length, iv 0]) ∧ w' = wr := by
  obtain ⟨F, p, ids, h1, h2⟩ := h
  have := size_ok h1.dk s
  rw [h2.size hs hf] at this
  exact this
theorem oc_read (h : OC w wr d m now last pend fs) (hs : mayB s = true) (hf : now.get s = some f) {o n : Nat} (hb : o + n ≤ (fs f).b.length) : Calls Try.prog 15 #[cp d, sk s, iv o, iv n] wr fun e w' =>
    ∃ v, e = .returned (.tuple #[v, iv 0]) ∧ Sl w' 5 1 v n (byV (((fs f).b.drop o).take n)) ∧ Only [] wr w' ∧ ∀ g, v.ownBlock = some g → wr.heap.size ≤ g := by
  obtain ⟨F, p, ids, h1, h2⟩ := h
  have := read_ok h1.dk s o n
  rw [h2.read hs hf hb] at this
  have hl : (((fs f).b.drop o).take n).length = n := by simp; omega
  rw [hl] at this
  exact this
theorem oc_list (h : OC w wr d m now last pend fs) : Calls Try.prog 20 #[cp d] wr fun e w' =>
    ∃ v, e = .returned (.tuple #[v, iv 0]) ∧ Sl w' 9 1 v now.length (now.map fun x => sk x.1) ∧ Only [] wr w' ∧ ∀ g, v.ownBlock = some g → wr.heap.size ≤ g := by
  obtain ⟨F, p, ids, h1, h2⟩ := h
  have := list_ok h1.dk
  rw [h2.list] at this
  dsimp only at this
  rw [List.length_map, List.map_map] at this
  exact this
end
end Go.Proofs.Ythekilgolelomaa
