/-
  The disk: a crash.
-/
import Derived.Test.YthekilgolelomaaDu
import Derived.StillTailTactics
set_option linter.unusedSimpArgs false
set_option linter.unusedVariables false
namespace Go.Proofs.Ythekilgolelomaa
open Go.RowKit Go.Fl

/-! ### What is kept, as an argument -/
/-- Keeps: how many bytes, the junk's slice, the junk. -/
abbrev Kp := Int × Value × List UInt8
def kcs (l : List Kp) : List Value := (l.map fun x => [iv x.1, x.2.1]).flatten
/-- A slice of keeps. -/
def KS (w : World) (v : Value) (l : List Kp) : Prop := Sr w 2 v l.length (kcs l) ∧ ∀ x ∈ l, Sr w 1 x.2.1 x.2.2.length (byV x.2.2)
def KOff (F : Nat → Prop) (v : Value) (l : List Kp) : Prop := Off F v l.length ∧ ∀ x ∈ l, Off F x.2.1 x.2.2.length
/-- What is kept of the j-th file. -/
def kpat (l : List Kp) (j : Nat) : Int × List UInt8 := match l[j]? with
  | some x => (x.1, x.2.2)
  | none => (0, [])
theorem kcs_get : ∀ (l : List Kp) (i : Nat) (h : i < l.length), (kcs l)[i * 2]? = some (iv (l[i]).1) ∧ (kcs l)[i * 2 + 1]? = some (l[i]).2.1
  | [], i, h => by simp at h
  | x :: l, 0, h => ⟨rfl, rfl⟩
  | x :: l, i + 1, h => by
    have h1 := kcs_get l i (by simpa using h)
    rw [show (i + 1) * 2 = i * 2 + 1 + 1 by omega]
    exact h1
theorem KS.only {w w' : World} {v : Value} {l : List Kp} {S : List Nat} {F : Nat → Prop} (h : KS w v l) (hf : KOff F v l) (ho : Only S w w') (hS : ∀ k ∈ S, F k ∨ w.heap.size ≤ k) : KS w' v l :=
  ⟨h.1.only ho fun h0 g hg hl hm => by
    rcases hS g hm with e | e
    · exact hf.1 h0 g hg e
    · omega, fun x hx => (h.2 x hx).only ho fun h0 g hg hl hm => by
    rcases hS g hm with e | e
    · exact hf.2 x hx h0 g hg e
    · omega⟩
theorem KS.only0 {w w' : World} {v : Value} {l : List Kp} (h : KS w v l) (ho : Only [] w w') : KS w' v l := ⟨h.1.only0 ho, fun x hx => (h.2 x hx).only0 ho⟩
theorem KS.turn {w w' : World} {v : Value} {l : List Kp} {F : Nat → Prop} (h : KS w v l) (hf : KOff F v l) (ht : Turn F w w') : KS w' v l := ⟨Go.Proofs.Ythekilgolelomaa.Sr.turn h.1 ht hf.1, fun x hx => Go.Proofs.Ythekilgolelomaa.Sr.turn (h.2 x hx) ht (hf.2 x hx)⟩
/-- What lies behind a crash. -/
def crashV (fs : Nat → FD) (kp : Nat → Int × List UInt8) (A : Dir) : List (Nm × FD) := A.mapIdx fun j x => (x.1, FD.flat ((fs x.2).left (kp j).1 (kp j).2))
theorem crashV_snoc (fs : Nat → FD) (kp : Nat → Int × List UInt8) (A : Dir) (k : Nat) (h : k < A.length) : crashV fs kp (A.take (k + 1)) = crashV fs kp (A.take k) ++ [((A[k]).1, FD.flat ((fs (A[k]).2).left (kp k).1 (kp k).2))] := by
  unfold crashV
  rw [List.take_succ_eq_append_getElem h, List.mapIdx_concat]
  simp [Nat.min_eq_left (Nat.le_of_lt h)]
theorem crashV_names (fs : Nat → FD) (kp : Nat → Int × List UInt8) (A : Dir) : (crashV fs kp A).map (·.1) = A.map (·.1) := by
  unfold crashV
  apply List.ext_getElem
  · simp
  · intro i h1 h2
    simp
/-- A directory with the files that its names lead to. -/
def view (fs : Nat → FD) (d : Dir) : List (Nm × FD) := d.map fun x => (x.1, fs x.2)
theorem view_names (fs : Nat → FD) (d : Dir) : (view fs d).map (·.1) = d.map (·.1) := by
  unfold view
  rw [List.map_map]
  rfl
theorem while_all {p : Nm × Nat → Bool} : ∀ {D : Dir}, (∀ x ∈ D, p x = true) → D.takeWhile p = D ∧ D.dropWhile p = []
  | [], _ => ⟨rfl, rfl⟩
  | x :: D, h => by
    obtain ⟨h1, h2⟩ := while_all (D := D) fun y hy => h y (List.mem_cons_of_mem _ hy)
    rw [List.takeWhile_cons_of_pos (h x (by simp)), List.dropWhile_cons_of_pos (h x (by simp)), h1, h2]
    exact ⟨rfl, rfl⟩
theorem put_last {D : Dir} {s : Nm} {f : Nat} (h : ∀ x ∈ D, nl x.1 s = true) : D.put s f = D ++ [(s, f)] := by
  have hd : D.del s = D := List.filter_eq_self.2 fun x hx => by
    have h1 : x.1 ≠ s := fun e => by
      have := h x hx
      rw [e, nl_irr] at this
      cases this
    simpa using h1
  unfold Dir.put
  rw [hd]
  obtain ⟨h1, h2⟩ := while_all (p := fun x => nl x.1 s) h
  rw [h1, h2]
section
variable {w w' : World} {F G : Nat → Prop} {d : Nat} {p p' : PD} {fs : Nat → FD} {ids : Nat → Prop} {nb lb : Nat} {pv fv pv' fv' : Value} {bv lv : Nat → Value}
/-- What is no file's memory turns. -/
theorem FS.far (h : FS w F ids fs bv lv) {S : List Nat} (ho : Only S w w') (hS : ∀ k ∈ S, ∀ t cs, Blk w k t cs → t ≠ 87 ∧ t ≠ 5) : FS w' F ids fs bv lv :=
  ⟨fun i hi => by
    have hf := h.file i hi
    refine hf.keep (ho.block i hf.blk.lt fun hm => (hS i hm _ _ hf.blk).1 rfl) (fun g hg => ?_) (fun g hg => ?_)
    · obtain ⟨cur, hc⟩ := Go.Proofs.Ythekilgolelomaa.Sl.blk hf.b hg
      exact ho.block g hc.lt fun hm => (hS g hm _ _ hc).2 rfl
    · obtain ⟨cur, hc⟩ := Go.Proofs.Ythekilgolelomaa.Sl.blk hf.l hg
      exact ho.block g hc.lt fun hm => (hS g hm _ _ hc).2 rfl, h.s1, h.s2, h.s3, h.fi, h.fb, h.fl⟩
/-- One more file. -/
theorem FS.add2 (h : FS w F ids fs bv lv) {g : Nat} {x : FD} {b l : Value} (hf : FM w g x b l) (hn : ¬ ids g) (hG : ∀ k, F k → G k) (hg : G g) (hb : ∀ k, b.ownBlock = some k → G k ∧ ¬ F k) (hl : ∀ k, l.ownBlock = some k → G k ∧ ¬ F k)
    (hbl : ∀ k, b.ownBlock = some k → l.ownBlock ≠ some k) : FS w G (fun k => k = g ∨ ids k) (upd fs g x) (upd bv g b) (upd lv g l) := by
  have eb : ∀ {i k}, (upd bv g b i).ownBlock = some k → (i = g ∧ b.ownBlock = some k) ∨ (i ≠ g ∧ (bv i).ownBlock = some k) := fun {i k} hk => by
    by_cases e : i = g
    · subst e; rw [upd_at] at hk; exact .inl ⟨rfl, hk⟩
    · rw [upd_ne _ _ e] at hk; exact .inr ⟨e, hk⟩
  have el : ∀ {i k}, (upd lv g l i).ownBlock = some k → (i = g ∧ l.ownBlock = some k) ∨ (i ≠ g ∧ (lv i).ownBlock = some k) := fun {i k} hk => by
    by_cases e : i = g
    · subst e; rw [upd_at] at hk; exact .inl ⟨rfl, hk⟩
    · rw [upd_ne _ _ e] at hk; exact .inr ⟨e, hk⟩
  refine ⟨fun i hi => ?_, fun i j k hi hj h1 h2 => ?_, fun i j k hi hj hij h1 h2 => ?_, fun i j k hi hj hij h1 h2 => ?_, fun i hi => ?_, fun i k hi h1 => ?_, fun i k hi h1 => ?_⟩
  · by_cases e : i = g
    · subst e; rw [upd_at, upd_at, upd_at]; exact hf
    · rw [upd_ne _ _ e, upd_ne _ _ e, upd_ne _ _ e]; exact h.file i (hi.resolve_left e)
  · rcases eb h1 with ⟨e1, h1⟩ | ⟨e1, h1⟩ <;> rcases el h2 with ⟨e2, h2⟩ | ⟨e2, h2⟩
    · exact hbl k h1 h2
    · exact (hb k h1).2 (h.fl j k (hj.resolve_left e2) h2)
    · exact (hl k h2).2 (h.fb i k (hi.resolve_left e1) h1)
    · exact h.s1 i j k (hi.resolve_left e1) (hj.resolve_left e2) h1 h2
  · rcases eb h1 with ⟨e1, h1⟩ | ⟨e1, h1⟩ <;> rcases eb h2 with ⟨e2, h2⟩ | ⟨e2, h2⟩
    · exact hij (e1.trans e2.symm)
    · exact (hb k h1).2 (h.fb j k (hj.resolve_left e2) h2)
    · exact (hb k h2).2 (h.fb i k (hi.resolve_left e1) h1)
    · exact h.s2 i j k (hi.resolve_left e1) (hj.resolve_left e2) hij h1 h2
  · rcases el h1 with ⟨e1, h1⟩ | ⟨e1, h1⟩ <;> rcases el h2 with ⟨e2, h2⟩ | ⟨e2, h2⟩
    · exact hij (e1.trans e2.symm)
    · exact (hl k h1).2 (h.fl j k (hj.resolve_left e2) h2)
    · exact (hl k h2).2 (h.fl i k (hi.resolve_left e1) h1)
    · exact h.s3 i j k (hi.resolve_left e1) (hj.resolve_left e2) hij h1 h2
  · rcases hi with rfl | hi
    · exact hg
    · exact hG _ (h.fi i hi)
  · rcases eb h1 with ⟨e1, h1⟩ | ⟨e1, h1⟩
    · exact (hb k h1).1
    · exact hG _ (h.fb i k (hi.resolve_left e1) h1)
  · rcases el h1 with ⟨e1, h1⟩ | ⟨e1, h1⟩
    · exact (hl k h1).1
    · exact hG _ (h.fl i k (hi.resolve_left e1) h1)
/-- The disk behind a crash. -/
def PD.crash (p : PD) (D : Dir) : PD := { p with up := true, now := D, last := D, pend := [], faults := [] }
/-- What a crash leaves. -/
def Crashed (w : World) (F : Nat → Prop) (d : Nat) (p : PD) (fs : Nat → FD) (kp : Nat → Int × List UInt8) (A : Dir) (w' : World) : Prop :=
  ∃ D fs' ids', After w F d (p.crash D) fs' ids' w' ∧ view fs' D = crashV fs kp A ∧ (D.map (·.2)).Nodup ∧ ∀ x ∈ D, w.heap.size ≤ x.2
/-- What holds while files are laid anew. -/
structure CR (w wr : World) (F : Nat → Prop) (fs : Nat → FD) (ids : Nat → Prop) (nb2 lb2 : Nat) (V : List (Nm × FD)) (D : Dir) (idsk : Nat → Prop) (fsk : Nat → FD) (bvk lvk : Nat → Value) : Prop where
  now : DMap wr nb2 D
  last : DMap wr lb2 D
  fm : FS wr (grow F w wr) idsk fsk bvk lvk
  old : ∀ i, ids i → idsk i ∧ fsk i = fs i
  new : ∀ x ∈ D, idsk x.2 ∧ w.heap.size ≤ x.2
  vw : view fsk D = V
  nod : (D.map (·.2)).Nodup
theorem FM.far {b l : Value} {i : Nat} {f : FD} {S : List Nat} (h : FM w i f b l) (ho : Only S w w') (hS : ∀ k ∈ S, ∀ t cs, ¬ Blk w k t cs) : FM w' i f b l :=
  h.keep (ho.block i h.blk.lt fun hm => hS i hm _ _ h.blk) (fun g hg => by
    obtain ⟨cur, hc⟩ := Go.Proofs.Ythekilgolelomaa.Sl.blk h.b hg
    exact ho.block g hc.lt fun hm => hS g hm _ _ hc) (fun g hg => by
    obtain ⟨cur, hc⟩ := Go.Proofs.Ythekilgolelomaa.Sl.blk h.l hg
    exact ho.block g hc.lt fun hm => hS g hm _ _ hc)
theorem CR.step {wr w5 : World} {nb2 lb2 : Nat} {V : List (Nm × FD)} {D : Dir} {idsk : Nat → Prop} {fsk : Nat → FD} {bvk lvk : Nat → Value} (h : CR w wr F fs ids nb2 lb2 V D idsk fsk bvk lvk) (hF : ∀ k, F k → k < w.heap.size) (hsz : w.heap.size ≤ wr.heap.size) (ho : Only [nb2, lb2] wr w5)
    {s : Nm} {g : Nat} {x : FD} {b l : Value} (hf : FM w5 g x b l) (hg : wr.heap.size ≤ g) (hb : ∀ k, b.ownBlock = some k → wr.heap.size ≤ k) (hl : ∀ k, l.ownBlock = some k → wr.heap.size ≤ k) (hbl : ∀ k, b.ownBlock = some k → l.ownBlock ≠ some k)
    (hnow : DMap w5 nb2 (D.put s g)) (hlast : DMap w5 lb2 (D.put s g)) (hs : ∀ y ∈ D, nl y.1 s = true) :
    CR w w5 F fs ids nb2 lb2 (V ++ [(s, x)]) (D ++ [(s, g)]) (fun k => k = g ∨ idsk k) (upd fsk g x) (upd bvk g b) (upd lvk g l) := by
  have hlt : ∀ i, idsk i → i < wr.heap.size := fun i hi => (h.fm.file i hi).blk.lt
  have hgi : ∀ i, idsk i → i ≠ g := fun i hi e => by have := hlt i hi; omega
  have hnF : ∀ k, wr.heap.size ≤ k → ¬ grow F w wr k := fun k hk hg2 => by
    rcases hg2 with h1 | h1
    · have := hF k h1; omega
    · omega
  have hG : ∀ k, grow F w wr k → grow F w w5 k := fun k hk => by
    have := ho.size
    rcases hk with hk | hk
    · exact .inl hk
    · exact .inr ⟨hk.1, by omega⟩
  rw [put_last hs] at hnow hlast
  refine ⟨hnow, hlast, (h.fm.far ho fun k hk t cs hc => ?_).add2 hf (fun hi => hgi g hi rfl) hG (.inr ⟨by omega, hf.blk.lt⟩) (fun k hk => ⟨.inr ⟨by have := hb k hk; omega, hf.b.lt k hk⟩, hnF k (hb k hk)⟩) (fun k hk => ⟨.inr ⟨by have := hl k hk; omega, hf.l.lt k hk⟩, hnF k (hl k hk)⟩) hbl, fun i hi => ?_, fun y hy => ?_, ?_, ?_⟩
  · simp at hk
    rcases hk with rfl | rfl
    · exact absurd rfl (h.now.not_cells hc)
    · exact absurd rfl (h.last.not_cells hc)
  · obtain ⟨h1, h2⟩ := h.old i hi
    exact ⟨.inr h1, by rw [upd_ne _ _ (hgi i h1)]; exact h2⟩
  · rcases List.mem_append.1 hy with hy | hy
    · exact ⟨.inr (h.new y hy).1, (h.new y hy).2⟩
    · rw [List.mem_singleton.1 hy]
      exact ⟨.inl rfl, by show w.heap.size ≤ g; omega⟩
  · unfold view
    rw [List.map_append, ← h.vw]
    unfold view
    congr 1
    · refine List.map_congr_left fun y hy => ?_
      rw [upd_ne _ _ (hgi y.2 (h.new y hy).1)]
    · simp [upd_at]
  · rw [List.map_append, List.nodup_append]
    refine ⟨h.nod, by simp, fun a ha c hc => ?_⟩
    obtain ⟨y, hy, rfl⟩ := List.mem_map.1 ha
    simp at hc
    subst hc
    exact hgi y.2 (h.new y hy).1
set_option maxRecDepth 100000 in
set_option maxHeartbeats 6400000 in
theorem crash_ok (h0 : DK w F d p fs ids) (hpl : p.pend.length ≤ 1048576) (dn : Int) {kv : Value} {kj : List Kp} (hk : KS w kv kj) (hko : KOff F kv kj) : Calls Try.prog 21 #[cp d, .agg #[iv dn, kv]] w fun e w' =>
    e = .returned (.tuple #[]) ∧ Crashed w F d p fs (kpat kj) (p.after dn) w' := by
  have HF := Lib.hid h0.2
  obtain ⟨⟨nb, lb, pv, fv, bv, lv, h⟩, _⟩ := h0
  have H := Lib.hid h
  have HKS := Lib.hid hk
  have HKO := Lib.hid hko
  obtain ⟨ka, kc, hkv, hkc, _⟩ := hk.1.shape
  clear hko
  subst hkv
  have HO0 := Lib.hid ((Only.refl [] w).alloc (.cells #[iv dn, .slice ka kj.length kc] 33))
  have HB0 := Lib.hid (Blk.new w 33 #[iv dn, .slice ka kj.length kc])
  have HAF := Lib.hid (after_ok (h.dm.only0 HO0.out) h.ok.ok hpl dn)
  have HA := Lib.hid (h.ok.after dn)
  have HID := Lib.hid (h.live.after dn)
  obtain ⟨A, hA⟩ : ∃ A, p.after dn = A := ⟨_, rfl⟩
  rw [hA] at HAF HA HID ⊢
  have hb := h.dm.blk.alloc (.cells #[iv dn, .slice ka kj.length kc] 33)
  have x0 := hb.cell 0
  have xl := hb.lt
  have c0 := HB0.out.cell 0
  have xb := HB0.out.lt
  simp [dcells] at x0 c0
  have hmk : ∀ w, (Instr.makeMap 56 none).run Try.prog w = .ok (.map (some w.heap.size)) (w.alloc (.map #[] 0)) := fun _ => rfl
  clear h hA hpl hk hb
  go_enter Try.func21, Try.ntmps21
  go_wp2_with fail
  refine HAF.out.mono ?_
  rintro e w1 ⟨b, rfl, hb1, hd1, ho1⟩
  have HO1 := Lib.hid (HO0.out.trans ho1)
  have HD1 := Lib.hid hd1
  have HB1 := Lib.hid (HB0.out.only ho1 (by simp))
  obtain ⟨fb, hfb⟩ : ∃ fb, w.heap.size = fb := ⟨_, rfl⟩
  have HFB := Lib.hid hfb
  rw [hfb] at HB1 ⊢
  have hba := ((H.out.dm.blk.only HO1.out (by simp)).alloc (.map #[] 0)).alloc (.map #[] 0)
  have yl := hba.lt
  have yf := hba.frozen
  have y3 := hba.cell 3
  have y4 := hba.cell 4
  simp [dcells] at y3 y4
  have HBA := Lib.hid hba
  clear HAF hb1 hd1 ho1 x0 xl c0 xb HO0 HB0 hfb hba
  go_upto_region 4 with fail
  obtain ⟨w3, hw3⟩ : ∃ x : World, x = (((w1.alloc (.map #[] 0)).alloc (.map #[] 0)).setCell ⟨d, 3, none⟩ (.map (some w1.heap.size))).setCell ⟨d, 4, none⟩ (.map (some (w1.heap.size + 1))) := ⟨_, rfl⟩
  rw [← hw3]
  have hdl : d < w1.heap.size := Nat.lt_of_lt_of_le H.out.dm.blk.lt HO1.out.size
  have o13 : Only [d] ((w1.alloc (.map #[] 0)).alloc (.map #[] 0)) w3 := by
    rw [hw3]
    exact ((Only.refl [d] _).setCell (.inl (by simp)) _).setCell (.inl (by simp)) _
  have HO3 := Lib.hid (show Only [d] w w3 from (((HO1.out.mono (by simp)).alloc _).alloc _).trans o13)
  have HNB := Lib.hid (show d < w1.heap.size ∧ b < w1.heap.size ∧ fb < w1.heap.size from ⟨hdl, HD1.out.lt, HB1.out.lt⟩)
  have HN3 := Lib.hid (show DMap w3 w1.heap.size [] from ((DMap.new w1).only ((Only.refl [] _).alloc (.map #[] 0)) (by simp)).only o13 (by simp; omega))
  have HL3 := Lib.hid (show DMap w3 (w1.heap.size + 1) [] from by
    have := (DMap.new (w1.alloc (.map #[] 0))).only o13 (by simp; omega)
    simpa using this)
  have HBD3 := Lib.hid (show Blk w3 d 59 (dcells p w1.heap.size (w1.heap.size + 1) pv fv) from by
    rw [hw3]
    have := (HBA.out.set_ 3 (.map (some w1.heap.size))).set_ 4 (.map (some (w1.heap.size + 1)))
    simpa [dcells] using this)
  have h13 : Only [d] w1 w3 := (((Only.refl [d] w1).alloc _).alloc _).trans o13
  have HD3 := Lib.hid (HD1.out.only h13 (by
    have h1 := HB1.out.lt
    have h2 := HD1.out.not_cells (H.out.dm.blk.only HO1.out (by simp))
    simpa using h2))
  have HB3 := Lib.hid (HB1.out.only h13 (by
    have h2 := H.out.dm.blk.lt
    have h3 := HFB.out
    simp
    omega))
  have HSZ := Lib.hid (show w.heap.size ≤ w1.heap.size from HO1.out.size)
  have HW1 := Lib.hid (show w1.heap.size + 2 ≤ w3.heap.size from by have := o13.size; simp at this; omega)
  clear hw3 o13 h13 yl yf y3 y4 HBA HB1 HD1 hdl
  obtain ⟨nb2, hnb2⟩ : ∃ x, w1.heap.size = x := ⟨_, rfl⟩
  obtain ⟨lb2, hlb2⟩ : ∃ x, nb2 + 1 = x := ⟨_, rfl⟩
  rw [hnb2] at HN3 HL3 HBD3 HSZ HW1 HNB ⊢
  rw [hlb2] at HL3 HBD3 ⊢
  have HLB := Lib.hid hlb2
  clear hnb2 hlb2
  have HNM := Lib.hid (names_ok HD3.out HA.out.2.2 (by have := HA.out.2.1; omega))
  go_wp2_with fail
  refine HNM.out.mono ?_
  rintro e w4 ⟨nv, rfl, hs4, ho4, hw4⟩
  obtain ⟨na, nc, hnv, _, _⟩ := hs4.shape
  subst hnv
  have HS4 := Lib.hid hs4
  have HO4 := Lib.hid (HO3.out.trans (ho4.mono (by simp)))
  have HD4 := Lib.hid (HD3.out.only ho4 (by simp))
  have HN4 := Lib.hid (HN3.out.only ho4 (by simp))
  have HL4 := Lib.hid (HL3.out.only ho4 (by simp))
  have HBD4 := Lib.hid (HBD3.out.only ho4 (by simp))
  have HB4 := Lib.hid (HB3.out.only ho4 (by simp))
  have HW4 := Lib.hid (show w.heap.size ≤ nb2 ∧ nb2 + 2 ≤ w4.heap.size from ⟨HSZ.out, Nat.le_trans HW1.out ho4.size⟩)
  have HKS4 := Lib.hid (HKS.out.only HKO.out HO4.out (fun k hk => by
    simp at hk
    subst hk
    exact .inl H.out.dm.fd))
  have HFS4 := Lib.hid (show FS w4 (grow F w w4) ids fs bv lv from (H.out.fs.far HO4.out (fun k hk t cs hc => by
    simp at hk
    subst hk
    refine ⟨fun e => ?_, fun e => ?_⟩ <;> exact Blk.ne_ hc H.out.dm.blk (by rw [e]; decide) rfl)).mono fun k hk => .inl hk)
  obtain ⟨M, hM⟩ : ∃ M, A.length = M := ⟨_, rfl⟩
  have HM := Lib.hid hM
  have HML := Lib.hid (show M ≤ 256 from hM ▸ HA.out.2.1)
  rw [hM] at HS4 ⊢
  have HNUM := Lib.hid (show d < nb2 ∧ b < nb2 ∧ fb < nb2 ∧ nb2 + 1 = lb2 from ⟨HNB.out.1, HNB.out.2.1, HNB.out.2.2, HLB.out⟩)
  have HNS := Lib.hid (show ∀ i ∈ [nb2, lb2], ∀ t cs, ¬ Blk w4 i t cs from fun i hi t cs hc => by
    simp at hi
    rcases hi with rfl | rfl
    · exact HN4.out.not_cells hc rfl
    · exact HL4.out.not_cells hc rfl)
  have HC0 : Hid (CR w w4 F fs ids nb2 lb2 (crashV fs (kpat kj) (A.take 0)) [] ids fs bv lv) := Lib.hid ⟨HN4.out, HL4.out, HFS4.out, fun i hi => ⟨hi, rfl⟩, fun x hx => (by cases hx), (by rw [List.take_zero]; rfl), List.nodup_nil⟩
  clear HNM hs4 ho4 hw4 HD3 HN3 HL3 HBD3 HB3 HO3 HO1 HSZ HW1 hM
  go_wp2
  go_loopw [32] (fun z wr => ∃ (k : Nat) (D : Dir) (idsk : Nat → Prop) (fsk : Nat → FD) (bvk lvk : Nat → Value), z = .int .i64 k ∧ Hid (k ≤ M) ∧ Hid (CR w wr F fs ids nb2 lb2 (crashV fs (kpat kj) (A.take k)) D idsk fsk bvk lvk) ∧ Hid (Only [nb2, lb2] w4 wr)) (fun z _ => M - (intOf z).toNat)
  case atStart => exact ⟨0, [], ids, fs, bv, lv, rfl, Lib.hid (Nat.zero_le _), HC0, Lib.hid (Only.refl _ _)⟩
  case round =>
    obtain ⟨k, D, idsk, fsk, bvk, lvk, rfl, HK, HC, HO⟩ := hrel
    have HBDr := Lib.hid (HBD4.out.only HO.out (by have := HNUM.out; simp; omega))
    have HBr := Lib.hid (HB4.out.only HO.out (by have := HNUM.out; simp; omega))
    by_cases hkl : k < M
    case neg =>
      have hkz : ¬ (k : Int) < (M : Int) := nlt_z hkl
      have HE := Lib.hid (Nat.le_antisymm HK.out (Nat.le_of_not_lt hkl))
      have HFS := Lib.hid (HC.out.fm.far ((((Only.refl [d] wr).setCell (p := ⟨d, 5, none⟩) (.inl (by simp)) (.slice none 0 0)).setCell (p := ⟨d, 15, none⟩) (.inl (by simp)) (.slice none 0 0)).setCell (p := ⟨d, 1, none⟩) (.inl (by simp)) (.bool true)) (fun i hi t cs hc => by
        simp at hi
        subst hi
        refine ⟨fun e => ?_, fun e => ?_⟩ <;> exact Blk.ne_ hc HBDr.out (by rw [e]; decide) rfl))
      have HDM := Lib.hid (show DM (((wr.setCell ⟨d, 5, none⟩ (.slice none 0 0)).setCell ⟨d, 15, none⟩ (.slice none 0 0)).setCell ⟨d, 1, none⟩ (.bool true)) (grow F w wr) d (p.crash D) nb2 lb2 (.slice none 0 0) (.slice none 0 0) from by
        have o5 : Only [d] wr (((wr.setCell ⟨d, 5, none⟩ (.slice none 0 0)).setCell ⟨d, 15, none⟩ (.slice none 0 0)).setCell ⟨d, 1, none⟩ (.bool true)) := (((Only.refl [d] wr).setCell (.inl (by simp)) _).setCell (.inl (by simp)) _).setCell (.inl (by simp)) _
        have hn := HNUM.out
        have hw := HW4.out
        have hs := HO.out.size
        refine ⟨?_, HC.out.now.only o5 (by simp; omega), HC.out.last.only o5 (by simp; omega), by omega, Sl.nil _ _ _, Sl.nil _ _ _, .inl H.out.dm.fd, .inr ⟨hw.1, by omega⟩, .inr ⟨by omega, by omega⟩, by simp [Value.ownBlock], by simp [Value.ownBlock]⟩
        have := ((HBDr.out.set_ 5 (.slice none 0 0)).set_ 15 (.slice none 0 0)).set_ 1 (.bool true)
        simpa [dcells, PD.crash] using this)
      have HSZ := Lib.hid (show (((wr.setCell ⟨d, 5, none⟩ (.slice none 0 0)).setCell ⟨d, 15, none⟩ (.slice none 0 0)).setCell ⟨d, 1, none⟩ (.bool true)).heap.size = wr.heap.size from by simp)
      have HTN := Lib.hid (show Turn F w (((wr.setCell ⟨d, 5, none⟩ (.slice none 0 0)).setCell ⟨d, 15, none⟩ (.slice none 0 0)).setCell ⟨d, 1, none⟩ (.bool true)) from Turn.of (S := [d, nb2, lb2]) ((((((HO4.out.mono (by simp)).trans (HO.out.mono (by simp)) : Only [d, nb2, lb2] w wr)).setCell (.inl (by simp)) _).setCell (.inl (by simp)) _).setCell (.inl (by simp)) _) (fun i hi => by
        have hn := HNUM.out
        have hw := HW4.out
        simp at hi
        rcases hi with rfl | rfl | rfl
        · exact .inl H.out.dm.fd
        · exact .inr hw.1
        · exact .inr (by omega)))
      have x1 := HBDr.out.cell 1
      have x5 := HBDr.out.cell 5
      have x15 := HBDr.out.cell 15
      have xl := HBDr.out.lt
      have xf := HBDr.out.frozen
      simp [dcells] at x1 x5 x15
      have HAM := Lib.hid (show A.take k = A from by rw [HE.out, ← HM.out, List.take_length])
      have HNA := Lib.hid (show D.map (·.1) = A.map (·.1) from by
        rw [← view_names fsk, HC.out.vw, crashV_names, HAM.out])
      clear hkl
      go_wp2
      refine bodyPost_end (results_none rfl _ _ _) rfl ⟨rfl, D, fsk, idsk, ⟨⟨⟨nb2, lb2, _, _, bvk, lvk, HDM.out.mono ?_, HFS.out.mono ?_, ?_, ?_⟩, ?_⟩, HTN.out⟩, ?_, HC.out.nod, fun x hx => (HC.out.new x hx).2⟩
      · intro i hi
        rcases hi with hi | hi
        · exact .inl hi
        · exact .inr ⟨hi.1, by rw [HSZ.out]; exact hi.2⟩
      · intro i hi
        rcases hi with hi | hi
        · exact .inl hi
        · exact .inr ⟨hi.1, by rw [HSZ.out]; exact hi.2⟩
      · exact ⟨fun x hx => (HC.out.new x hx).1, fun x hx => (HC.out.new x hx).1, fun c hc => nomatch hc⟩
      · have hl : D.length = A.length := by
          have := congrArg List.length HNA.out
          simpa using this
        have hnm : ∀ x ∈ D, x.1.length ≤ 64 := fun x hx => by
          have h1 : x.1 ∈ A.map (·.1) := by rw [← HNA.out]; exact List.mem_map.2 ⟨x, hx, rfl⟩
          obtain ⟨y, hy, e⟩ := List.mem_map.1 h1
          rw [← e]
          exact HA.out.2.2 y hy
        have hk := H.out.ok
        exact ⟨HC.out.now.2, HC.out.last.2, rfl, trivial, by show D.length ≤ 256 ∧ D.length ≤ 256; rw [hl]; exact ⟨HA.out.2.1, HA.out.2.1⟩, by show ([] : List Flt).length ≤ 64; simp, hk.most, fun n => by
          show (doAll D (List.take n [])).length ≤ 256 ∧ ∀ x ∈ doAll D (List.take n []), x.1.length ≤ 64
          rw [List.take_nil]
          exact ⟨by show D.length ≤ 256; rw [hl]; exact HA.out.2.1, hnm⟩⟩
      · exact fun i hi => grow_lt HF.out HTN.out.size i hi
      · rw [HC.out.vw, HAM.out]
    have hkz : (k : Int) < (M : Int) := lt_z hkl
    have hka : k < A.length := by rw [HM.out]; exact hkl
    have HSN := Lib.hid (HS4.out.only HO.out (fun i hi hm => by
      obtain ⟨cur, hc⟩ := Go.Proofs.Ythekilgolelomaa.Sl.blk HS4.out hi
      exact HNS.out i hm _ _ hc))
    obtain ⟨ng, no, nc', hv, hfm⟩ := HSN.out.form (by omega)
    injection hv with hva hvl hvc
    subst hva
    subst hvc
    clear hvl hfm
    have y0 := HSN.out.cells_ k (sk (A[k]).1) (by simp [hka])
    rw [Addr.add_lit] at y0
    have hm := List.getElem_mem hka
    have hget : A.get (A[k]).1 = some (A[k]).2 := Dir.get_some HA.out.1.nod (by exact hm)
    have HID2 := Lib.hid (HID.out _ hm)
    have HCS := Lib.hid (crashV_snoc fs (kpat kj) A k hka)
    have HLS := Lib.hid (show ∀ y ∈ D, nl y.1 (A[k]).1 = true from fun y hy => by
      have h1 : y.1 ∈ (A.take k).map (·.1) := by
        rw [← crashV_names fs (kpat kj), ← HC.out.vw, view_names]
        exact List.mem_map.2 ⟨y, hy, rfl⟩
      obtain ⟨z, hz, e⟩ := List.mem_map.1 h1
      obtain ⟨j, hj, rfl⟩ := List.mem_iff_getElem.1 hz
      rw [← e, List.getElem_take]
      have hjk : j < k := by simp at hj; omega
      exact List.pairwise_iff_getElem.1 HA.out.1 j k _ hka hjk)
    obtain ⟨⟨s, f⟩, hx⟩ : ∃ x, A[k] = x := ⟨_, rfl⟩
    rw [hx] at y0 hget HID2 HCS HLS
    dsimp only at y0 hget HID2 HCS HLS
    have HGET := Lib.hid hget
    have HDr := Lib.hid (HD4.out.only HO.out (by have := HNUM.out; simp; omega))
    have HKr := Lib.hid (HKS.out.only (S := [d, nb2, lb2]) HKO.out ((HO4.out.mono (by simp)).trans (HO.out.mono (by simp))) (fun i hi => by
      have hn := HNUM.out
      have hw := HW4.out
      simp at hi
      rcases hi with rfl | rfl | rfl
      · exact .inl H.out.dm.fd
      · exact .inr hw.1
      · exact .inr (by omega)))
    have e8 := wrap_sm (by have := HML.out; omega) hkl
    have HMS := Lib.hid (meas hkl)
    have HKL := Lib.hid hkl
    have c1 := (HBr.out.alloc (.cells #[iv 0, .slice none 0 0] 75)).cell 1
    have xb := HBr.out.lt
    simp at c1
    clear hkl hka hm hget hx
    by_cases hkk : k < kj.length
    case neg =>
      have hkkz : ¬ (k : Int) < (kj.length : Int) := nlt_z hkk
      have HKP := Lib.hid (show kpat kj k = (0, []) from by unfold kpat; rw [List.getElem?_eq_none (by omega)])
      have HB6 := Lib.hid (Blk.new wr 75 #[iv 0, .slice none 0 0])
      have HO6 := Lib.hid ((Only.refl [] wr).alloc (.cells #[iv 0, .slice none 0 0] 75))
      have HJ6 := Lib.hid (show Sr (wr.alloc (.cells #[iv 0, .slice none 0 0] 75)) 1 (.slice none 0 0) ([] : List UInt8).length (byV []) from Sr.nil _ 1)
      obtain ⟨kb, hkb⟩ : ∃ kb, wr.heap.size = kb := ⟨_, rfl⟩
      clear hkk
      go_upto_region 10 with fail
      generalize hw6 : wr.alloc (.cells #[iv 0, .slice none 0 0] 75) = w6 at HB6 HO6 HJ6 ⊢
      rw [hkb] at HB6
      clear c1 xb y0 hw6 hkb hkkz
      have HD6 := Lib.hid (HDr.out.only HO6.out (by simp))
      have HBD6 := Lib.hid (HBDr.out.only HO6.out (by simp))
      have HN6 := Lib.hid (HC.out.now.only HO6.out (by simp))
      have HL6 := Lib.hid (HC.out.last.only HO6.out (by simp))
      have z0 := HB6.out.cell 0
      have z1 := HB6.out.cell 1
      have zl := HB6.out.lt
      have zd0 := HB6.out.drew.cell 0
      have zd1 := HB6.out.drew.cell 1
      have x3 := HBD6.out.cell 3
      have x3d := HBD6.out.drew.cell 3
      have xl := HBD6.out.lt
      simp [dcells] at z0 z1 zd0 zd1 x3 x3d
      have hl := DMap.lookup (P := Try.prog) HD6.out Try.underlying56 Try.underlying9 zero79 s
      have hld := DMap.lookup (P := Try.prog) (HD6.out.only ((Only.refl [] w6).drew) (by simp)) Try.underlying56 Try.underlying9 zero79 s
      rw [HGET.out] at hl hld
      unfold optP at hl hld

      go_region_law (first
        | (go_simp; go_at_call 44; refine (left_ok (J := []) (FM.only0 (HC.out.fm.file f (HC.out.old f HID2.out).1) (by first | exact HO6.out | exact HO6.out.drew)) (by first | exact HJ6.out | exact HJ6.out.drew)).mono ?_
           rintro e w7 ⟨g, b7, l7, rfl, hg7, hf7, ho7, hb7, hl7, hbl7⟩
           have HO7 : Hid (Only [] w6 w7) := Lib.hid (by first | exact ho7 | exact (Only.refl [] w6).drew.trans ho7)
           have x37 := (HBD6.out.only HO7.out (by simp)).cell 3
           simp [dcells] at x37
           have HF7 := Lib.hid hf7
           have HG7 := Lib.hid (show w6.heap.size ≤ g ∧ (∀ k, b7.ownBlock = some k → w6.heap.size ≤ k) ∧ (∀ k, l7.ownBlock = some k → w6.heap.size ≤ k) ∧ ∀ k, b7.ownBlock = some k → l7.ownBlock ≠ some k from ⟨hg7, hb7, hl7, hbl7⟩)
           have HN7 := Lib.hid (HN6.out.only HO7.out (by simp))
           obtain ⟨w8, hrun8, hm8, ho8, hz8⟩ := DMap.update (P := Try.prog) HN7.out Try.underlying56 Try.underlying9 s g
           have HM8 := Lib.hid hm8
           have HO8 := Lib.hid ho8
           clear hg7 hf7 ho7 hb7 hl7 hbl7 hm8 ho8 hz8))
      all_goals
        clear hrun8 x37 z0 z1 zl zd0 zd1 x3 x3d xl hl hld
        have HBD8 := Lib.hid ((HBD6.out.only HO7.out (by simp)).only HO8.out (by have := HNUM.out; simp; omega))
        have hl8 := DMap.lookup (P := Try.prog) (HM8.out.only ((Only.refl [] w8).drew) (by simp)) Try.underlying56 Try.underlying9 zero79 s
        rw [Dir.get_put HN7.out.2, if_pos rfl] at hl8
        unfold optP at hl8
        have HL8 := Lib.hid (((HL6.out.only HO7.out (by simp)).only HO8.out (by have := HNUM.out; simp; omega)).only ((Only.refl [] w8).drew) (by simp))
        have x3 := HBD8.out.cell 3
        have x4 := HBD8.out.cell 4
        have xl := HBD8.out.lt
        simp [dcells] at x3 x4
        go_wp2_with fail
        go_still_tail 11, (by kernel_rfl)
        change wpList _ _ _ _ _ w8.drew
        go_wp2_with (at_mapUpdate; refine wpList_dput rfl (.tmp 60) (.tmp 61) (.tmp 67) 56 rfl 9 78 Try.underlying56 Try.underlying9 rfl HL8.out rfl rfl ?_)
        intro w9 hm9 ho9 hz9
        have HO79 := Lib.hid (show Only [nb2, lb2] w7 w9 from (HO8.out.mono (by simp)).trans (((Only.refl [] w8).drew.mono (by simp)).trans (ho9.mono (by simp))))
        have HO9 := Lib.hid (show Only [nb2, lb2] wr w9 from ((HO6.out.trans HO7.out).mono (by simp)).trans HO79.out)
        have HF9 := Lib.hid (show FM w9 g (FD.flat ((fs f).left 0 [])) b7 l7 from by
          rw [← (HC.out.old f HID2.out).2]
          refine FM.far HF7.out HO79.out fun i hi t cs hc => ?_
          simp at hi
          rcases hi with rfl | rfl
          · exact HN7.out.not_cells hc rfl
          · exact (HL6.out.only HO7.out (by simp)).not_cells hc rfl)
        have HM9 := Lib.hid (show DMap w9 nb2 (D.put s g) from (HM8.out.only ((Only.refl [] w8).drew) (by simp)).only ho9 (by have := HNUM.out; simp; omega))
        have HC9 := Lib.hid (CR.step HC.out HF.out (Nat.le_trans (by have := HW4.out; omega) HO.out.size) HO9.out HF9.out (Nat.le_trans HO6.out.size HG7.out.1) (fun i hi => Nat.le_trans HO6.out.size (HG7.out.2.1 i hi)) (fun i hi => Nat.le_trans HO6.out.size (HG7.out.2.2.1 i hi)) HG7.out.2.2.2 HM9.out hm9 HLS.out)
        clear hm9 ho9 hz9 x3 x4 xl hl8
        go_wp2
        go_roundw
        case measure => (try rw [e8]); exact HMS.out
        case rel => exact ⟨k + 1, D ++ [(s, g)], _, _, _, _, by first | rfl | rw [e8], Lib.hid HKL.out, by
          rw [HCS.out, HKP.out]
          exact HC9, Lib.hid (HO.out.trans HO9.out)⟩
    have hkkz : (k : Int) < (kj.length : Int) := lt_z hkk
    have HKP := Lib.hid (show kpat kj k = ((kj[k]).1, (kj[k]).2.2) from by unfold kpat; rw [List.getElem?_eq_getElem hkk])
    have HOA := Lib.hid ((Only.refl [] wr).alloc (.cells #[iv 0, .slice none 0 0] 75))
    have HKA := Lib.hid (HKr.out.only0 HOA.out)
    have HJA := Lib.hid (HKr.out.2 _ (List.getElem_mem hkk))
    obtain ⟨kg, ko, kc', hv, hfm⟩ := HKA.out.1.form (by omega)
    injection hv with hva hvl hvc
    subst hva
    subst hvc
    clear hvl hfm
    obtain ⟨f1, f2⟩ := kcs_get kj k hkk
    have y1 := HKA.out.1.cells_ _ _ f1
    have y2 := HKA.out.1.cells_ _ _ f2
    rw [Addr.add_lit] at y1 y2
    rw [← Nat.add_assoc] at y2
    obtain ⟨⟨N, jv, J⟩, hkx⟩ : ∃ x, kj[k] = x := ⟨_, rfl⟩
    rw [hkx] at HKP HJA y1 y2
    dsimp only at HKP HJA y1 y2
    obtain ⟨ja, jc, hjv, _, _⟩ := HJA.out.shape
    subst hjv
    clear f1 f2 hkx hkk
    go_wp2_with (refine wpList_store_blk (g := wr.heap.size) (k := 0) rfl 75 (.tmp 7) (.tmp 46) rfl [iv N, .slice ja J.length jc] rfl rfl (Blk.new wr 75 #[iv 0, .slice none 0 0]) (by kernel_rfl) (by simp) (by simp [Value.oneCell']) ?_)
    intro w6 hB6 hO6
    have HB6 := Lib.hid (show Blk w6 wr.heap.size 75 #[iv N, .slice ja J.length jc] by simpa using hB6)
    have HO6 := Lib.hid (only_new hO6)
    have HJ6 := Lib.hid (show Sr w6 1 (.slice ja J.length jc) J.length (byV J) from HJA.out.only0 HO6.out)
    clear hB6 hO6 c1 xb y0 y1 y2 HKA HJA HOA hkkz
    go_upto_region 10 with fail
    generalize wr.heap.size = kb at HB6 ⊢
    have HD6 := Lib.hid (HDr.out.only HO6.out (by simp))
    have HBD6 := Lib.hid (HBDr.out.only HO6.out (by simp))
    have HN6 := Lib.hid (HC.out.now.only HO6.out (by simp))
    have HL6 := Lib.hid (HC.out.last.only HO6.out (by simp))
    have z0 := HB6.out.cell 0
    have z1 := HB6.out.cell 1
    have zl := HB6.out.lt
    have zd0 := HB6.out.drew.cell 0
    have zd1 := HB6.out.drew.cell 1
    have x3 := HBD6.out.cell 3
    have x3d := HBD6.out.drew.cell 3
    have xl := HBD6.out.lt
    simp [dcells] at z0 z1 zd0 zd1 x3 x3d
    have hl := DMap.lookup (P := Try.prog) HD6.out Try.underlying56 Try.underlying9 zero79 s
    have hld := DMap.lookup (P := Try.prog) (HD6.out.only ((Only.refl [] w6).drew) (by simp)) Try.underlying56 Try.underlying9 zero79 s
    rw [HGET.out] at hl hld
    unfold optP at hl hld

    go_region_law (first
      | (go_simp; go_at_call 44; refine (left_ok (J := J) (FM.only0 (HC.out.fm.file f (HC.out.old f HID2.out).1) (by first | exact HO6.out | exact HO6.out.drew)) (by first | exact HJ6.out | exact HJ6.out.drew)).mono ?_
         rintro e w7 ⟨g, b7, l7, rfl, hg7, hf7, ho7, hb7, hl7, hbl7⟩
         have HO7 : Hid (Only [] w6 w7) := Lib.hid (by first | exact ho7 | exact (Only.refl [] w6).drew.trans ho7)
         have x37 := (HBD6.out.only HO7.out (by simp)).cell 3
         simp [dcells] at x37
         have HF7 := Lib.hid hf7
         have HG7 := Lib.hid (show w6.heap.size ≤ g ∧ (∀ k, b7.ownBlock = some k → w6.heap.size ≤ k) ∧ (∀ k, l7.ownBlock = some k → w6.heap.size ≤ k) ∧ ∀ k, b7.ownBlock = some k → l7.ownBlock ≠ some k from ⟨hg7, hb7, hl7, hbl7⟩)
         have HN7 := Lib.hid (HN6.out.only HO7.out (by simp))
         obtain ⟨w8, hrun8, hm8, ho8, hz8⟩ := DMap.update (P := Try.prog) HN7.out Try.underlying56 Try.underlying9 s g
         have HM8 := Lib.hid hm8
         have HO8 := Lib.hid ho8
         clear hg7 hf7 ho7 hb7 hl7 hbl7 hm8 ho8 hz8))
    all_goals
      clear hrun8 x37 z0 z1 zl zd0 zd1 x3 x3d xl hl hld
      have HBD8 := Lib.hid ((HBD6.out.only HO7.out (by simp)).only HO8.out (by have := HNUM.out; simp; omega))
      have hl8 := DMap.lookup (P := Try.prog) (HM8.out.only ((Only.refl [] w8).drew) (by simp)) Try.underlying56 Try.underlying9 zero79 s
      rw [Dir.get_put HN7.out.2, if_pos rfl] at hl8
      unfold optP at hl8
      have HL8 := Lib.hid (((HL6.out.only HO7.out (by simp)).only HO8.out (by have := HNUM.out; simp; omega)).only ((Only.refl [] w8).drew) (by simp))
      have x3 := HBD8.out.cell 3
      have x4 := HBD8.out.cell 4
      have xl := HBD8.out.lt
      simp [dcells] at x3 x4
      go_wp2_with fail
      go_still_tail 11, (by kernel_rfl)
      change wpList _ _ _ _ _ w8.drew
      go_wp2_with (at_mapUpdate; refine wpList_dput rfl (.tmp 60) (.tmp 61) (.tmp 67) 56 rfl 9 78 Try.underlying56 Try.underlying9 rfl HL8.out rfl rfl ?_)
      intro w9 hm9 ho9 hz9
      have HO79 := Lib.hid (show Only [nb2, lb2] w7 w9 from (HO8.out.mono (by simp)).trans (((Only.refl [] w8).drew.mono (by simp)).trans (ho9.mono (by simp))))
      have HO9 := Lib.hid (show Only [nb2, lb2] wr w9 from ((HO6.out.trans HO7.out).mono (by simp)).trans HO79.out)
      have HF9 := Lib.hid (show FM w9 g (FD.flat ((fs f).left N J)) b7 l7 from by
        rw [← (HC.out.old f HID2.out).2]
        refine FM.far HF7.out HO79.out fun i hi t cs hc => ?_
        simp at hi
        rcases hi with rfl | rfl
        · exact HN7.out.not_cells hc rfl
        · exact (HL6.out.only HO7.out (by simp)).not_cells hc rfl)
      have HM9 := Lib.hid (show DMap w9 nb2 (D.put s g) from (HM8.out.only ((Only.refl [] w8).drew) (by simp)).only ho9 (by have := HNUM.out; simp; omega))
      have HC9 := Lib.hid (CR.step HC.out HF.out (Nat.le_trans (by have := HW4.out; omega) HO.out.size) HO9.out HF9.out (Nat.le_trans HO6.out.size HG7.out.1) (fun i hi => Nat.le_trans HO6.out.size (HG7.out.2.1 i hi)) (fun i hi => Nat.le_trans HO6.out.size (HG7.out.2.2.1 i hi)) HG7.out.2.2.2 HM9.out hm9 HLS.out)
      clear hm9 ho9 hz9 x3 x4 xl hl8
      go_wp2
      go_roundw
      case measure => (try rw [e8]); exact HMS.out
      case rel => exact ⟨k + 1, D ++ [(s, g)], _, _, _, _, by first | rfl | rw [e8], Lib.hid HKL.out, by
        rw [HCS.out, HKP.out]
        exact HC9, Lib.hid (HO.out.trans HO9.out)⟩
end
end Go.Proofs.Ythekilgolelomaa
