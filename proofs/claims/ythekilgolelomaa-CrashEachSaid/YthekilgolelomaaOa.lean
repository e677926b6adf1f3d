/-
  Arguments opened: slices of whatever, bytes, slices of bytes, a fate.
-/
import Derived.Test.YthekilgolelomaaDv
set_option linter.unusedSimpArgs false
set_option linter.unusedVariables false
namespace Go.Proofs.Ythekilgolelomaa
open Go.RowKit Go.Fl Go.ChangeShapes Go.WideShapes Go.Deep

theorem flat_get {k : Nat} (hk : 0 < k) : ∀ (L : List (List Value)), (∀ y ∈ L, y.length = k) → ∀ i, L.flatten[i]? = (L[i / k]?).bind fun y => y[i % k]?
  | [], _, i => by simp
  | y :: L, h, i => by
    have hy := h y (by simp)
    rw [List.flatten_cons]
    by_cases hi : i < k
    · rw [List.getElem?_append_left (by omega), Nat.div_eq_of_lt hi, Nat.mod_eq_of_lt hi]
      rfl
    · rw [List.getElem?_append_right (by omega), hy, flat_get hk L (fun z hz => h z (List.mem_cons_of_mem _ hz)) (i - k)]
      have h1 : i / k = (i - k) / k + 1 := by
        rw [← Nat.add_div_right _ hk]
        congr 1
        omega
      have h2 : i % k = (i - k) % k := by
        conv => lhs; rw [show i = (i - k) + k by omega]
        rw [Nat.add_mod_right]
      rw [h1, h2]
      rfl
section
variable {H : Type} {enc : TypeId × Value → H} {P : Program} {w : World}
theorem trod_sl {α : Type} {t e : TypeId} {k : Nat} (ht : P.underlying t = some (.slice e)) (hk : P.cellsOf e = k) (hk0 : 0 < k) {p : List Value → α → Prop}
    (he : ∀ fuel cs x, DataW.trod enc P w 0 (fun _ => true) true fuel e cs = some x → ∃ y, p cs y) {fuel : Nat} {cs : List Value} {x : DataW H × List MemPlace}
    (h : DataW.trod enc P w 0 (fun _ => true) true fuel t cs = some x) : ∃ (v : Value) (l : List (List Value × α)), cs = [v] ∧ Sr w k v l.length ((l.map (·.1)).flatten) ∧ ∀ y ∈ l, y.1.length = k ∧ p y.1 y.2 := by
  rcases DataW.trod_slice ht h with ⟨e, _⟩ | ⟨a, len, cap, elems, rest, m, hm, e, _, _, hl, hcap, hel, hall, _, _⟩
  · exact ⟨_, [], e, Sr.nil _ _, fun y hy => by cases hy⟩
  · have hone : ∀ j, j < len → ∃ y : List Value × α, w.cells? 0 (a.add (j * k)) k = some y.1 ∧ p y.1 y.2 := fun j hj => by
      have h5 := hall j hj
      rw [hk] at h5
      have h6 : elems[j]? = some (elems[j]'(by omega)) := List.getElem?_eq_getElem _
      rw [h6] at h5
      obtain ⟨cs', h7, h8⟩ := Option.bind_eq_some_iff.1 h5
      obtain ⟨y, hy⟩ := he _ _ _ h8
      exact ⟨(cs', y), h7, hy⟩
    obtain ⟨l, hll, hp⟩ := list_of (p := fun j (y : List Value × α) => w.cells? 0 (a.add (j * k)) k = some y.1 ∧ p y.1 y.2) len hone
    subst hll
    have hlen : ∀ y ∈ l, y.1.length = k := fun y hy => by
      obtain ⟨i, hi, rfl⟩ := List.getElem_of_mem hy
      exact (World.cells?_some (hp i hi).1).2.1
    have hlk : ∀ y ∈ l.map (·.1), y.length = k := fun y hy => by
      obtain ⟨z, hz, rfl⟩ := List.mem_map.1 hy
      exact hlen z hz
    refine ⟨_, l, e, ⟨?_, some a, cap, rfl, hl, hcap, fun h0 => ?_⟩, fun y hy => ⟨hlen y hy, ?_⟩⟩
    · rw [List.length_flatten]
      have : (l.map (·.1)).map List.length = List.replicate l.length k := by
        refine List.eq_replicate_iff.2 ⟨by simp, fun b hb => ?_⟩
        obtain ⟨z, hz, rfl⟩ := List.mem_map.1 hb
        exact hlk z hz
      rw [this, List.sum_replicate_nat]
    · obtain ⟨_, _, hat0⟩ := World.cells?_some (hp 0 h0).1
      have hy0 : (l[0]).1.length = k := hlen _ (List.getElem_mem h0)
      have h7 : w.cell? a = some ((l[0]).1[0]'(by omega)) := by
        have h6 := hat0 0 hk0
        rw [List.getElem?_eq_getElem (by omega)] at h6
        simpa [Addr.add] using h6
      have hsp : a.spot = none := by
        have this := h7
        unfold World.cell? at this
        split at this
        · split at this
          · cases this
          · rename_i h; simpa using h
        · cases this
      have hlt : a.block < w.heap.size := cell_lt h7
      obtain ⟨g, off, sp⟩ := a
      simp only at hsp
      subst hsp
      refine ⟨g, off, rfl, hlt, fun i u hu => ?_⟩
      rw [flat_get hk0 _ hlk] at hu
      obtain ⟨y, hy, hu⟩ := Option.bind_eq_some_iff.1 hu
      rw [List.getElem?_map] at hy
      obtain ⟨z, hz, rfl⟩ := Option.map_eq_some_iff.1 hy
      obtain ⟨hj, hz⟩ := List.getElem?_eq_some_iff.1 hz
      subst hz
      obtain ⟨_, _, hat⟩ := World.cells?_some (hp (i / k) hj).1
      have h8 := hat (i % k) (Nat.mod_lt _ hk0)
      have h9 : ((⟨g, off, none⟩ : Addr).add (i / k * k)).add (i % k) = ⟨g, off + i, none⟩ := by
        rw [Addr.add_lit, Addr.add_lit]
        congr 1
        have := Nat.div_add_mod i k
        rw [Nat.mul_comm] at this
        omega
      rw [h9] at h8
      exact h8.trans hu
    · obtain ⟨i, hi, rfl⟩ := List.getElem_of_mem hy
      exact (hp i hi).2
theorem trod_by {t : TypeId} (ht : P.underlying t = some (.slice 5)) (hk : P.cellsOf 5 = 1) (h5 : P.underlying 5 = some (.int .u8)) {fuel : Nat} {cs : List Value} {x : DataW H × List MemPlace}
    (h : DataW.trod enc P w 0 (fun _ => true) true fuel t cs = some x) : ∃ (v : Value) (l : List UInt8), cs = [v] ∧ Sr w 1 v l.length (byV l) := by
  obtain ⟨v, l, rfl, hs, hp⟩ := trod_sl (α := UInt8) (p := fun cs c => cs = [.int .u8 c.toNat]) ht hk (by decide) (fun fuel cs x hd => by
    obtain ⟨n, h1, _, h3⟩ := DataW.trod_int h5 hd
    simp only [Lit.wf, IntKind.min, IntKind.max, IntKind.bits, IntKind.signed] at h3
    simp at h3
    have hlt : n.toNat < 256 := by omega
    refine ⟨UInt8.ofNat n.toNat, ?_⟩
    rw [h1, UInt8.toNat_ofNat_of_lt' hlt, Int.toNat_of_nonneg h3.1]) h
  refine ⟨v, l.map (·.2), rfl, ?_⟩
  have e : (l.map (·.1)).flatten = byV (l.map (·.2)) := by
    unfold byV
    rw [List.map_map]
    clear hs
    induction l with
    | nil => rfl
    | cons y l ih =>
      rw [List.map_cons, List.flatten_cons, ih (fun z hz => hp z (List.mem_cons_of_mem _ hz)), (hp y (by simp)).2]
      rfl
  rw [e] at hs
  simpa using hs
variable {r : Reach} {b0 : Nat} {v : Value} {d : DataW H} {ps : List MemPlace}
/-- A slice of slices of bytes. -/
def BS (w : World) (v : Value) (l : List (Value × List UInt8)) : Prop := Sr w 1 v l.length (l.map (·.1)) ∧ ∀ x ∈ l, Sr w 1 x.1 x.2.length (byV x.2)
theorem BS.only0 {w w' : World} {v : Value} {l : List (Value × List UInt8)} (h : BS w v l) (ho : Only [] w w') : BS w' v l := ⟨h.1.only0 ho, fun x hx => (h.2 x hx).only0 ho⟩
theorem one_val {t : TypeId} {e : TypeId} (ht : P.underlying t = some (.slice e)) (hval : Value.okWide P w r b0 t v) : v.cells.toList = [v] := by
  obtain ⟨a, len, cap, rfl⟩ := okWide_slice ht hval
  rfl
theorem open_bytesR {t : TypeId} (ht : P.underlying t = some (.slice 5)) (hk : P.cellsOf 5 = 1) (h5 : P.underlying 5 = some (.int .u8)) (hval : Value.okWide P w r b0 t v) (h : DataW.Trod enc P w 0 (fun _ => true) true t v d ps) :
    ∃ l : List UInt8, Sr w 1 v l.length (byV l) := by
  obtain ⟨fuel, h⟩ := h
  obtain ⟨v', l, e, hs⟩ := trod_by ht hk h5 h
  rw [one_val ht hval] at e
  injection e with e
  subst e
  exact ⟨l, hs⟩
theorem open_bss {t tb : TypeId} (ht : P.underlying t = some (.slice tb)) (hkb : P.cellsOf tb = 1) (htb : P.underlying tb = some (.slice 5)) (hk : P.cellsOf 5 = 1) (h5 : P.underlying 5 = some (.int .u8)) (hval : Value.okWide P w r b0 t v) (h : DataW.Trod enc P w 0 (fun _ => true) true t v d ps) :
    ∃ l, BS w v l := by
  obtain ⟨fuel, h⟩ := h
  obtain ⟨v', l, e, hs, hp⟩ := trod_sl (α := Value × List UInt8) (p := fun cs y => cs = [y.1] ∧ Sr w 1 y.1 y.2.length (byV y.2)) ht hkb (by decide) (fun fuel cs x hd => by
    obtain ⟨v, l, e, hs⟩ := trod_by htb hk h5 hd
    exact ⟨(v, l), e, hs⟩) h
  rw [one_val ht hval] at e
  injection e with e
  subst e
  refine ⟨l.map (·.2), ?_, fun y hy => ?_⟩
  · have e : (l.map (·.1)).flatten = (l.map (·.2)).map (·.1) := by
      rw [List.map_map]
      clear hs
      induction l with
      | nil => rfl
      | cons y l ih =>
        rw [List.map_cons, List.flatten_cons, ih (fun z hz => hp z (List.mem_cons_of_mem _ hz)), (hp y (by simp)).2.1]
        rfl
    rw [e] at hs
    simpa using hs
  · obtain ⟨z, hz, rfl⟩ := List.mem_map.1 hy
    exact (hp z hz).2.2
theorem trod_ks {tk : TypeId} {f0 f1 : Field} (hk2 : P.underlying tk = some (.struct #[f0, f1])) (hc : P.cellsOf tk = 2) (h0 : f0.offset = 0) (h1 : f1.offset = 1) (t0 : P.underlying f0.type = some (.int .i64)) (c0 : P.cellsOf f0.type = 1) (c1 : P.cellsOf f1.type = 1)
    (htb : P.underlying f1.type = some (.slice 5)) (hk : P.cellsOf 5 = 1) (h5 : P.underlying 5 = some (.int .u8)) {t : TypeId} (ht : P.underlying t = some (.slice tk)) {fuel : Nat} {cs : List Value} {x : DataW H × List MemPlace}
    (h : DataW.trod enc P w 0 (fun _ => true) true fuel t cs = some x) : ∃ (v : Value) (l : List Kp), cs = [v] ∧ KS w v l := by
  obtain ⟨v, l, rfl, hs, hp⟩ := trod_sl (α := Kp) (p := fun cs y => cs = [iv y.1, y.2.1] ∧ Sr w 1 y.2.1 y.2.2.length (byV y.2.2)) ht hc (by decide) (fun fuel cs x hd => by
    obtain ⟨y0, y1, n, _, hl, d0, d1⟩ := trod_struct2 hk2 hd
    rw [hc] at hl
    match cs, hl with
    | [a, b], _ =>
      rw [h0, c0] at d0
      rw [h1, c1] at d1
      obtain ⟨z, e0, _, _⟩ := DataW.trod_int t0 d0
      obtain ⟨v, l, e1, hs⟩ := trod_by htb hk h5 d1
      simp at e0 e1
      exact ⟨(z, v, l), by rw [e0, e1], hs⟩) h
  refine ⟨v, l.map (·.2), rfl, ?_, fun y hy => ?_⟩
  · have e : (l.map (·.1)).flatten = kcs (l.map (·.2)) := by
      unfold kcs
      rw [List.map_map]
      clear hs
      congr 1
      exact List.map_congr_left fun y hy => (hp y hy).2.1
    rw [e] at hs
    simpa using hs
  · obtain ⟨z, hz, rfl⟩ := List.mem_map.1 hy
    exact (hp z hz).2.2
theorem two_of : ∀ {l : List Value}, l.length = 2 → ∃ a b, l = [a, b]
  | [a, b], _ => ⟨a, b, rfl⟩
theorem open_fate {tf : TypeId} {g0 g1 f0 f1 : Field} {tk : TypeId} (hf2 : P.underlying tf = some (.struct #[g0, g1])) (hcf : P.cellsOf tf = 2) (k0 : g0.offset = 0) (k1 : g1.offset = 1) (u0 : P.underlying g0.type = some (.int .i64)) (v0 : P.cellsOf g0.type = 1) (v1 : P.cellsOf g1.type = 1) (ht : P.underlying g1.type = some (.slice tk))
    (hk2 : P.underlying tk = some (.struct #[f0, f1])) (hc : P.cellsOf tk = 2) (h0 : f0.offset = 0) (h1 : f1.offset = 1) (t0 : P.underlying f0.type = some (.int .i64)) (c0 : P.cellsOf f0.type = 1) (c1 : P.cellsOf f1.type = 1)
    (htb : P.underlying f1.type = some (.slice 5)) (hk : P.cellsOf 5 = 1) (h5 : P.underlying 5 = some (.int .u8)) (hval : Value.okWide P w r b0 tf v) (h : DataW.Trod enc P w 0 (fun _ => true) true tf v d ps) :
    ∃ (dn : Int) (kv : Value) (kj : List Kp), v = .agg #[iv dn, kv] ∧ KS w kv kj := by
  obtain ⟨cs, rfl, _⟩ := okWide_struct hf2 hval
  obtain ⟨fuel, h⟩ := h
  obtain ⟨y0, y1, n, _, hl, d0, d1⟩ := trod_struct2 hf2 h
  rw [hcf] at hl
  simp only [Value.cells] at hl d0 d1
  obtain ⟨a, b, e⟩ := two_of hl
  rw [e] at d0 d1
  rw [k0, v0] at d0
  rw [k1, v1] at d1
  obtain ⟨z, e0, _, _⟩ := DataW.trod_int u0 d0
  obtain ⟨kv, kj, e1, hs⟩ := trod_ks hk2 hc h0 h1 t0 c0 c1 htb hk h5 ht d1
  simp at e0 e1
  exact ⟨z, kv, kj, by congr 1; apply Array.ext'; rw [e, e0, e1], hs⟩
end
end Go.Proofs.Ythekilgolelomaa
