/-
  ValueBack: small laws; bytes as an argument.
-/
import Derived.Test.YtffdfegelgpniaaMh
import Derived.Test.YtffdfegelgpniaaMi
import Derived.Test.YtffdfegelgpniaaZVw
import Derived.Test.YtffdfegelgpniaaMb
set_option linter.unusedSimpArgs false
set_option linter.unusedVariables false
set_option linter.unusedSimpArgs false
set_option linter.unusedVariables false
namespace Go.Proofs.Ytffdfegelgpniaa
open Go.RowKit Go.Fl Go.ChangeShapes Go.WideShapes

mutual
theorem eqV_refl : ∀ (v : V), eqV v v = true
  | .mk k i r t l => by
    unfold eqV
    simp [eqVs_refl l]
theorem eqVs_refl : ∀ (l : List V), eqVs l l = true
  | [] => by unfold eqVs; rfl
  | v :: l => by
    unfold eqVs
    simp [eqV_refl v, eqVs_refl l]
end
theorem less_irrefl {u : List Nat} (h : Less u u) : False := by
  obtain ⟨c, a, b, s, t, h1, h2, h3⟩ := h
  rw [h1] at h2
  have h2 := List.append_cancel_left h2
  injection h2 with h2 _
  omega
theorem cmp_same {x y : I} (hx : x.Good) (hy : y.Good) (h : x.key = y.key) : x.cmp y = 0 := by
  have hk := I.kord x y hx hy
  by_cases h0 : x.cmp y = 0
  · exact h0
  · by_cases h1 : x.cmp y < 0
    · have := hk.2.1 h1
      rw [h] at this
      exact (less_irrefl this).elim
    · have := hk.2.2 (by omega)
      rw [h] at this
      exact (less_irrefl this).elim
mutual
theorem pval_bad : ∀ (n : Nat) (bs : List Nat) (c nest at_ : Nat) (room p e : Int), (∀ c ∈ bs, c < 256) → nest ≤ 8 → 0 ≤ room → at_ ≤ bs.length → 2 * (bs.length - at_) + 2 ≤ n → pval n bs c nest at_ room = .bad p e → e = 2 ∨ e = 3 ∨ e = 4
  | 0, bs, c, nest, at_, room, p, e, hb, hm, h0, hl, hn, h => by omega
  | n + 1, bs, first, nest, at_, room, p, e, hb, hm, h0, hl, hn, h => by
    unfold pval at h
    by_cases c1 : first = 6 ∧ nest = 8
    · rw [if_pos c1] at h; injection h; omega
    rw [if_neg c1] at h
    by_cases c2 : first ≠ 5 ∧ 1 ≤ first ∧ first ≤ 6 ∧ room - 1 < 0
    · rw [if_pos c2] at h; injection h; omega
    rw [if_neg c2] at h
    split at h
    · cases h
    split at h
    · split at h
      · injection h; omega
      · split at h
        · injection h; omega
        · cases h
    split at h
    · split at h
      · cases h
      · injection h; omega
    split at h
    · split at h
      · split at h
        · injection h; omega
        · cases h
      · injection h; omega
    split at h
    · split at h
      · injection h; omega
      · injection h; omega
      · split at h
        · injection h; omega
        · cases h
    split at h
    · exact plist_bad n bs (nest + 1) at_ (room - 1) [] p e hb (by omega) (by omega) hl (by omega) h
    · injection h; omega
theorem plist_bad : ∀ (n : Nat) (bs : List Nat) (nest at_ : Nat) (room : Int) (acc : List V) (p e : Int), (∀ c ∈ bs, c < 256) → nest ≤ 8 → 0 ≤ room → at_ ≤ bs.length → 2 * (bs.length - at_) + 1 ≤ n → plist n bs nest at_ room acc = .bad p e → e = 2 ∨ e = 3 ∨ e = 4
  | 0, bs, nest, at_, room, acc, p, e, hb, hm, h0, hl, hn, h => by omega
  | n + 1, bs, nest, at_, room, acc, p, e, hb, hm, h0, hl, hn, h => by
    unfold plist at h
    split at h
    · injection h; omega
    · rename_i c hc
      obtain ⟨t1, _, _⟩ := take_one hc
      split at h
      · cases h
      · split at h
        · rename_i p' e' hx
          injection h with h1 h2
          subst h1
          subst h2
          exact pval_bad n bs c nest (at_ + 1) room _ _ hb hm h0 (by omega) (by omega) hx
        · rename_i v q rm hx
          obtain ⟨b1, b2, b3⟩ := pval_ok n bs c nest (at_ + 1) room v q rm h0 hx
          have hq := (pval_back n bs c nest (at_ + 1) room v q rm hb hm (by omega) hx).2.1
          exact plist_bad n bs nest q rm (acc ++ [v]) p e hb hm b2 hq (by omega) h
end
theorem read_bad {bs : List Nat} (hb : ∀ c ∈ bs, c < 256) {p e : Int} (h : pread bs = .bad p e) : e = 2 ∨ e = 3 ∨ e = 4 := by
  unfold pread at h
  cases hc : bs[0]? with
  | none => rw [hc] at h; injection h; omega
  | some c =>
    rw [hc] at h
    obtain ⟨t1, t2, t3⟩ := take_one hc
    exact pval_bad _ bs c 0 1 65536 p e hb (by omega) (by omega) (by omega) (by omega) h
/-- A key, read, whatever stands behind, in memory: the same item's key, the same in order. -/
theorem back_cmp {v : V} {x : I} (hx : v.item = some x) (hg : x.Good) (tl : List Nat) (hb : ∀ c ∈ x.key ++ tl, c < 256) (hgv : ∀ y, x.toV.item = some y → y.Good) : v.cmp x.toV = 0 ∧ pread (x.key ++ tl) = .ok x.toV x.key.length (65536 - (x.size : Int)) := by
  have hr := read_key hg (take_fits v 0 65536 x hx) (item_size hx) tl
  obtain ⟨h1, y, h2, h3⟩ := read_back hb hr
  refine ⟨?_, hr⟩
  unfold V.cmp
  rw [hx, h2]
  exact cmp_same hg (hgv y h2) (by rw [h3, List.take_left])
section
variable {H : Type} {enc : TypeId × Value → H} {P : Program} {w : World}
theorem open_bytes {r : Reach} {b0 : Nat} {t e : TypeId} {v : Value} {d : DataW H} {ps : List MemPlace} (ht : P.underlying t = some (.slice e)) (hk : P.cellsOf e = 1) (he : P.underlying e = some (.int .u8))
    (hval : Value.okWide P w r b0 t v) (h : DataW.Trod enc P w 0 (fun _ => true) true t v d ps) : ∃ bs : List Nat, BytesV w (· < w.heap.size) bs v := by
  obtain ⟨l, hr, hp⟩ := open_row (f := bv) (p := fun c => c < 256) ht hk (fun fuel cs x hd => by
    obtain ⟨n, h1, _, h3⟩ := DataW.trod_int he hd
    simp only [Lit.wf, IntKind.min, IntKind.max, IntKind.bits, IntKind.signed] at h3
    simp at h3
    exact ⟨n.toNat, by rw [h1]; congr 1; show Value.int .u8 n = .int .u8 ((n.toNat : Nat) : Int); congr 1; omega, by omega⟩) hval h
  obtain ⟨a, cap, e1, e2, e3, e4⟩ := hr
  refine ⟨l, a, cap, e1, e2, e3, fun c hc => ?_, fun h0 => ?_⟩
  · obtain ⟨i, hi, rfl⟩ := List.getElem_of_mem hc
    exact hp i hi
  · obtain ⟨g, off, h1, h2, h3⟩ := e4 h0
    exact ⟨g, off, h1, h2, h2, h3⟩
theorem BytesV.row {w : World} {F : Nat → Prop} {bs : List Nat} {s : Value} (h : BytesV w F bs s) : Row bv w s bs := by
  obtain ⟨a, cap, e1, e2, e3, _, e4⟩ := h
  refine ⟨a, cap, e1, e2, e3, fun h0 => ?_⟩
  obtain ⟨g, off, h1, h2, _, h3⟩ := e4 h0
  exact ⟨g, off, h1, h2, h3⟩
end
end Go.Proofs.Ytffdfegelgpniaa
