/-
  ValueKeys: the walk.
-/
import Derived.Test.YtffdfegelgpniaaMg
set_option linter.unusedSimpArgs false
set_option linter.unusedVariables false
set_option linter.unusedSimpArgs false
set_option linter.unusedVariables false
namespace Go.Proofs.Ytffdfegelgpniaa
open Go.RowKit Go.Fl

theorem big8_byte (n : Nat) : ∀ c ∈ big8 n, c < 256 := by
  intro c hc
  simp only [big8, List.mem_cons, List.not_mem_nil, or_false] at hc
  rcases hc with rfl | rfl | rfl | rfl | rfl | rfl | rfl | rfl <;> exact Nat.mod_lt _ (by decide)
theorem esc_byte : ∀ (l : List UInt8), ∀ c ∈ esc l, c < 256
  | [], c, h => by simp [esc] at h
  | d :: l, c, h => by
    rcases List.mem_append.1 h with h | h
    · split at h
      · simp at h; omega
      · simp at h; rw [h]; exact UInt8.toNat_lt d
    · exact esc_byte l c h
mutual
theorem key_byte : ∀ (x : I), ∀ c ∈ x.key, c < 256
  | .void, c, h => by simp [I.key] at h; omega
  | .truth n, c, h => by simp [I.key] at h; omega
  | .whole n, c, h => by
    rcases List.mem_cons.1 h with rfl | h
    · decide
    · exact big8_byte _ c h
  | .number n, c, h => by
    rcases List.mem_cons.1 h with rfl | h
    · decide
    · exact big8_byte _ c h
  | .text t, c, h => by
    rcases List.mem_cons.1 h with rfl | h
    · decide
    · rcases List.mem_append.1 h with h | h
      · exact esc_byte _ c h
      · simp at h; omega
  | .list l, c, h => by
    rcases List.mem_cons.1 h with rfl | h
    · decide
    · rcases List.mem_append.1 h with h | h
      · exact keys_byte l c h
      · simp at h; omega
theorem keys_byte : ∀ (l : List I), ∀ c ∈ keys l, c < 256
  | [], c, h => by simp [keys] at h
  | x :: l, c, h => by
    rcases List.mem_append.1 h with h | h
    · exact key_byte x c h
    · exact keys_byte l c h
end
theorem less_at {u v : List Nat} {k : Nat} (h : Less u v) (ht : u.take k = v.take k) (hs : ¬ ∃ (h1 : k < u.length) (h2 : k < v.length), u[k] = v[k]) : ∃ (h1 : k < u.length) (h2 : k < v.length), u[k] < v[k] := by
  obtain ⟨p, a, b, s, t, rfl, rfl, hl⟩ := h
  have e : k = p.length := by
    rcases Nat.lt_trichotomy k p.length with g | g | g
    · exfalso
      refine hs ⟨by simp; omega, by simp; omega, ?_⟩
      rw [List.getElem_append_left g, List.getElem_append_left g]
    · exact g
    · exfalso
      have h1 : ((p ++ a :: s).take k)[p.length]? = some a := by rw [List.getElem?_take_of_lt g]; simp
      have h2 : ((p ++ b :: t).take k)[p.length]? = some b := by rw [List.getElem?_take_of_lt g]; simp
      rw [ht, h2] at h1
      injection h1 with h1
      omega
  subst e
  refine ⟨by simp, by simp, ?_⟩
  simp
  exact hl
theorem stop_at {c : Int} {u v : List Nat} {k : Nat} (h : Kord c u v) (h1 : k ≤ u.length) (h2 : k ≤ v.length) (ht : u.take k = v.take k) (hs : ¬ ∃ (h1 : k < u.length) (h2 : k < v.length), u[k] = v[k]) :
    (c = 0 → k = u.length ∧ k = v.length) ∧ (c < 0 → ∃ (h1 : k < u.length) (h2 : k < v.length), u[k] < v[k]) ∧ (0 < c → ∃ (h1 : k < u.length) (h2 : k < v.length), v[k] < u[k]) := by
  refine ⟨fun e => ?_, fun e => less_at (h.2.1 e) ht hs, fun e => ?_⟩
  · have := h.1 e
    subst this
    refine ⟨?_, ?_⟩ <;>
    · by_cases g : k < u.length
      · exact absurd ⟨g, g, rfl⟩ hs
      · omega
  · obtain ⟨g1, g2, g3⟩ := less_at (h.2.2 e) ht.symm (fun ⟨g1, g2, g3⟩ => hs ⟨g2, g1, g3.symm⟩)
    exact ⟨g2, g1, g3⟩
theorem may_item (v : V) : v.may = match v.item with | none => false | some _ => true := by
  unfold V.may
  cases v.item with
  | none => rfl
  | some x => rfl
set_option maxRecDepth 1000000 in
set_option maxHeartbeats 12800000 in
theorem keys_law (w : World) {F G : Nat → Prop} {a b : V} {ca cb : List Value} (ha : VIs w F a ca) (hb : VIs w G b cb) : Calls Try.prog 4 #[.agg ca.toArray, .agg cb.toArray] w fun e w' => e = .returned (.bool true) ∧ Only [] w w' := by
  have HA := Lib.hid ha
  have HV := Lib.hid hb
  have HGA := Lib.hid (fun x (hx : a.item = some x) => item_good ha hx)
  have HGB := Lib.hid (fun x (hx : b.item = some x) => item_good hb hx)
  obtain ⟨k, i, r, t, s, n, cap, rfl⟩ := ha.five
  obtain ⟨k2, i2, r2, t2, s2, n2, cap2, rfl⟩ := hb.five
  clear ha hb
  have HO := Lib.hid (show Only [] w ((w.alloc (.cells #[iv k, iv i, fv r, .string t, .slice s n cap] 33)).alloc (.cells #[iv k2, iv i2, fv r2, .string t2, .slice s2 n2 cap2] 33)) from ((Only.refl _ w).alloc _).alloc _)
  have HB := Lib.hid (show Blk ((w.alloc (.cells #[iv k, iv i, fv r, .string t, .slice s n cap] 33)).alloc (.cells #[iv k2, iv i2, fv r2, .string t2, .slice s2 n2 cap2] 33)) w.heap.size 33 #[iv k, iv i, fv r, .string t, .slice s n cap] from (Blk.new _ _ _).alloc _)
  have HD := Lib.hid (show Blk ((w.alloc (.cells #[iv k, iv i, fv r, .string t, .slice s n cap] 33)).alloc (.cells #[iv k2, iv i2, fv r2, .string t2, .slice s2 n2 cap2] 33)) (w.heap.size + 1) 33 #[iv k2, iv i2, fv r2, .string t2, .slice s2 n2 cap2] by have := (Blk.new (w.alloc (.cells #[iv k, iv i, fv r, .string t, .slice s n cap] 33)) 33 #[iv k2, iv i2, fv r2, .string t2, .slice s2 n2 cap2]); simpa using this)
  go_enter Try.func4, Try.ntmps4
  have HQ := Lib.hid (begun_ok ((w.alloc (.cells #[iv k, iv i, fv r, .string t, .slice s n cap] 33)).alloc (.cells #[iv k2, iv i2, fv r2, .string t2, .slice s2 n2 cap2] 33)))
  go_wp2_with fail
  refine HQ.out.mono ?_
  clear HQ
  generalize ((w.alloc (.cells #[iv k, iv i, fv r, .string t, .slice s n cap] 33)).alloc (.cells #[iv k2, iv i2, fv r2, .string t2, .slice s2 n2 cap2] 33)) = w0 at *
  rintro e w1 ⟨rfl, ho⟩
  have HO1 := Lib.hid (HO.out.trans ho)
  have HB1 := Lib.hid (HB.out.only ho (by simp))
  have HD1 := Lib.hid (HD.out.only ho (by simp))
  have HA1 := Lib.hid (HA.out.only0 HO1.out)
  have HV1 := Lib.hid (HV.out.only0 HO1.out)
  clear ho HO HB HD HA HV
  have HQ := Lib.hid (Light_ok HA1.out)
  have p0 := HB1.out.cell 0
  have p1 := HB1.out.cell 1
  have p2 := HB1.out.cell 2
  have p3 := HB1.out.cell 3
  have p4 := HB1.out.cell 4
  simp at p0 p1 p2 p3 p4
  cases hla : a.isLight
  · rw [hla] at HQ
    go_wp2_with fail
    refine HQ.out.mono ?_
    clear HQ p0 p1 p2 p3 p4
    rintro e w2 ⟨rfl, ho⟩
    have HO2 := Lib.hid (HO1.out.trans ho)
    clear ho
    go_wp2
    exact bodyPost_ret (results_tmp rfl _ _ _) rfl ⟨rfl, HO2.out⟩
  rw [hla] at HQ
  clear hla
  go_wp2_with fail
  refine HQ.out.mono ?_
  clear HQ p0 p1 p2 p3 p4
  rintro e w2 ⟨rfl, ho⟩
  have HO2 := Lib.hid (HO1.out.trans ho)
  have HB2 := Lib.hid (HB1.out.only ho (by simp))
  have HD2 := Lib.hid (HD1.out.only ho (by simp))
  have HA2 := Lib.hid (HA1.out.only0 ho)
  have HV2 := Lib.hid (HV1.out.only0 ho)
  clear ho HO1 HB1 HD1 HA1 HV1
  have HQ := Lib.hid (Light_ok HV2.out)
  have p0 := HD2.out.cell 0
  have p1 := HD2.out.cell 1
  have p2 := HD2.out.cell 2
  have p3 := HD2.out.cell 3
  have p4 := HD2.out.cell 4
  simp at p0 p1 p2 p3 p4
  cases hla : b.isLight
  · rw [hla] at HQ
    go_wp2_with fail
    refine HQ.out.mono ?_
    clear HQ p0 p1 p2 p3 p4
    rintro e w3 ⟨rfl, ho⟩
    have HO3 := Lib.hid (HO2.out.trans ho)
    clear ho
    go_wp2
    exact bodyPost_ret (results_tmp rfl _ _ _) rfl ⟨rfl, HO3.out⟩
  rw [hla] at HQ
  clear hla
  go_wp2_with fail
  refine HQ.out.mono ?_
  clear HQ p0 p1 p2 p3 p4
  rintro e w3 ⟨rfl, ho⟩
  have HO3 := Lib.hid (HO2.out.trans ho)
  have HB3 := Lib.hid (HB2.out.only ho (by simp))
  have HD3 := Lib.hid (HD2.out.only ho (by simp))
  have HA3 := Lib.hid (HA2.out.only0 ho)
  have HV3 := Lib.hid (HV2.out.only0 ho)
  clear ho HO2 HB2 HD2 HA2 HV2
  cases hx : a.item with
  | none =>
    have HX := Lib.hid hx
    clear hx
    cases hy : b.item with
    | none =>
      have HY := Lib.hid hy
      clear hy HGA HGB
      have HQ := Lib.hid (Key_ok HA3.out)
      rw [HX.out] at HQ
      have p0 := HB3.out.cell 0
      have p1 := HB3.out.cell 1
      have p2 := HB3.out.cell 2
      have p3 := HB3.out.cell 3
      have p4 := HB3.out.cell 4
      simp at p0 p1 p2 p3 p4
      go_wp2_with fail
      refine HQ.out.mono ?_
      clear HQ p0 p1 p2 p3 p4
      rintro e w4 ⟨ka, rfl, hsa, _, ho⟩
      have HSA := Lib.hid hsa
      have HO4 := Lib.hid (HO3.out.trans ho)
      have HB4 := Lib.hid (HB3.out.only ho (by simp))
      have HD4 := Lib.hid (HD3.out.only ho (by simp))
      have HA4 := Lib.hid (HA3.out.only0 ho)
      have HV4 := Lib.hid (HV3.out.only0 ho)
      clear ho HO3 HB3 HD3 HA3 HV3 hsa
      have HQ := Lib.hid (Key_ok HV4.out)
      rw [HY.out] at HQ
      have p0 := HD4.out.cell 0
      have p1 := HD4.out.cell 1
      have p2 := HD4.out.cell 2
      have p3 := HD4.out.cell 3
      have p4 := HD4.out.cell 4
      simp at p0 p1 p2 p3 p4
      go_wp2_with fail
      refine HQ.out.mono ?_
      clear HQ p0 p1 p2 p3 p4
      rintro e w5 ⟨kb, rfl, hsb, _, ho⟩
      have HSB := Lib.hid hsb
      have HO45 := Lib.hid ho
      have HO5 := Lib.hid (HO4.out.trans ho)
      have HB5 := Lib.hid (HB4.out.only ho (by simp))
      have HD5 := Lib.hid (HD4.out.only ho (by simp))
      have HA5 := Lib.hid (HA4.out.only0 ho)
      have HV5 := Lib.hid (HV4.out.only0 ho)
      clear ho HO4 HB4 HD4 HA4 HV4 hsb
      have HQ := Lib.hid (may_ok HA5.out)
      rw [may_item, HX.out] at HQ
      have p0 := HB5.out.cell 0
      have p1 := HB5.out.cell 1
      have p2 := HB5.out.cell 2
      have p3 := HB5.out.cell 3
      have p4 := HB5.out.cell 4
      simp at p0 p1 p2 p3 p4
      go_wp2_with fail
      refine HQ.out.mono ?_
      clear HQ p0 p1 p2 p3 p4
      rintro e w6 ⟨rfl, ho⟩
      have HO6 := Lib.hid (HO5.out.trans ho)
      have HB6 := Lib.hid (HB5.out.only ho (by simp))
      have HD6 := Lib.hid (HD5.out.only ho (by simp))
      have HA6 := Lib.hid (HA5.out.only0 ho)
      have HV6 := Lib.hid (HV5.out.only0 ho)
      have HO56 := Lib.hid ho
      clear ho HO5 HB5 HD5 HA5 HV5
      have HQ := Lib.hid (may_ok HV6.out)
      rw [may_item, HY.out] at HQ
      have p0 := HD6.out.cell 0
      have p1 := HD6.out.cell 1
      have p2 := HD6.out.cell 2
      have p3 := HD6.out.cell 3
      have p4 := HD6.out.cell 4
      simp at p0 p1 p2 p3 p4
      go_wp2_with fail
      refine HQ.out.mono ?_
      clear HQ p0 p1 p2 p3 p4
      rintro e w7 ⟨rfl, ho⟩
      have HO7 := Lib.hid (HO6.out.trans ho)
      have HB7 := Lib.hid (HB6.out.only ho (by simp))
      have HD7 := Lib.hid (HD6.out.only ho (by simp))
      have HA7 := Lib.hid (HA6.out.only0 ho)
      have HV7 := Lib.hid (HV6.out.only0 ho)
      have HO57 := Lib.hid (HO56.out.trans ho)
      clear ho HO6 HB6 HD6 HA6 HV6 HO56
      go_wp2
      exact bodyPost_ret (results_tmp rfl _ _ _) rfl ⟨rfl, HO7.out⟩
    | some y =>
      have HY := Lib.hid hy
      clear hy HGA HGB
      have HQ := Lib.hid (Key_ok HA3.out)
      rw [HX.out] at HQ
      have p0 := HB3.out.cell 0
      have p1 := HB3.out.cell 1
      have p2 := HB3.out.cell 2
      have p3 := HB3.out.cell 3
      have p4 := HB3.out.cell 4
      simp at p0 p1 p2 p3 p4
      go_wp2_with fail
      refine HQ.out.mono ?_
      clear HQ p0 p1 p2 p3 p4
      rintro e w4 ⟨ka, rfl, hsa, _, ho⟩
      have HSA := Lib.hid hsa
      have HO4 := Lib.hid (HO3.out.trans ho)
      have HB4 := Lib.hid (HB3.out.only ho (by simp))
      have HD4 := Lib.hid (HD3.out.only ho (by simp))
      have HA4 := Lib.hid (HA3.out.only0 ho)
      have HV4 := Lib.hid (HV3.out.only0 ho)
      clear ho HO3 HB3 HD3 HA3 HV3 hsa
      have HQ := Lib.hid (Key_ok HV4.out)
      rw [HY.out] at HQ
      have p0 := HD4.out.cell 0
      have p1 := HD4.out.cell 1
      have p2 := HD4.out.cell 2
      have p3 := HD4.out.cell 3
      have p4 := HD4.out.cell 4
      simp at p0 p1 p2 p3 p4
      go_wp2_with fail
      refine HQ.out.mono ?_
      clear HQ p0 p1 p2 p3 p4
      rintro e w5 ⟨kb, rfl, hsb, _, ho⟩
      have HSB := Lib.hid hsb
      have HO45 := Lib.hid ho
      have HO5 := Lib.hid (HO4.out.trans ho)
      have HB5 := Lib.hid (HB4.out.only ho (by simp))
      have HD5 := Lib.hid (HD4.out.only ho (by simp))
      have HA5 := Lib.hid (HA4.out.only0 ho)
      have HV5 := Lib.hid (HV4.out.only0 ho)
      clear ho HO4 HB4 HD4 HA4 HV4 hsb
      have HQ := Lib.hid (may_ok HA5.out)
      rw [may_item, HX.out] at HQ
      have p0 := HB5.out.cell 0
      have p1 := HB5.out.cell 1
      have p2 := HB5.out.cell 2
      have p3 := HB5.out.cell 3
      have p4 := HB5.out.cell 4
      simp at p0 p1 p2 p3 p4
      go_wp2_with fail
      refine HQ.out.mono ?_
      clear HQ p0 p1 p2 p3 p4
      rintro e w6 ⟨rfl, ho⟩
      have HO6 := Lib.hid (HO5.out.trans ho)
      have HB6 := Lib.hid (HB5.out.only ho (by simp))
      have HD6 := Lib.hid (HD5.out.only ho (by simp))
      have HA6 := Lib.hid (HA5.out.only0 ho)
      have HV6 := Lib.hid (HV5.out.only0 ho)
      have HO56 := Lib.hid ho
      clear ho HO5 HB5 HD5 HA5 HV5
      have HQ := Lib.hid (may_ok HV6.out)
      rw [may_item, HY.out] at HQ
      have p0 := HD6.out.cell 0
      have p1 := HD6.out.cell 1
      have p2 := HD6.out.cell 2
      have p3 := HD6.out.cell 3
      have p4 := HD6.out.cell 4
      simp at p0 p1 p2 p3 p4
      go_wp2_with fail
      refine HQ.out.mono ?_
      clear HQ p0 p1 p2 p3 p4
      rintro e w7 ⟨rfl, ho⟩
      have HO7 := Lib.hid (HO6.out.trans ho)
      have HB7 := Lib.hid (HB6.out.only ho (by simp))
      have HD7 := Lib.hid (HD6.out.only ho (by simp))
      have HA7 := Lib.hid (HA6.out.only0 ho)
      have HV7 := Lib.hid (HV6.out.only0 ho)
      have HO57 := Lib.hid (HO56.out.trans ho)
      clear ho HO6 HB6 HD6 HA6 HV6 HO56
      go_wp2
      exact bodyPost_ret (results_tmp rfl _ _ _) rfl ⟨rfl, HO7.out⟩
  | some x =>
    have HX := Lib.hid hx
    clear hx
    cases hy : b.item with
    | none =>
      have HY := Lib.hid hy
      clear hy HGA HGB
      have HQ := Lib.hid (Key_ok HA3.out)
      rw [HX.out] at HQ
      have p0 := HB3.out.cell 0
      have p1 := HB3.out.cell 1
      have p2 := HB3.out.cell 2
      have p3 := HB3.out.cell 3
      have p4 := HB3.out.cell 4
      simp at p0 p1 p2 p3 p4
      go_wp2_with fail
      refine HQ.out.mono ?_
      clear HQ p0 p1 p2 p3 p4
      rintro e w4 ⟨ka, rfl, hsa, _, ho⟩
      have HSA := Lib.hid hsa
      have HO4 := Lib.hid (HO3.out.trans ho)
      have HB4 := Lib.hid (HB3.out.only ho (by simp))
      have HD4 := Lib.hid (HD3.out.only ho (by simp))
      have HA4 := Lib.hid (HA3.out.only0 ho)
      have HV4 := Lib.hid (HV3.out.only0 ho)
      clear ho HO3 HB3 HD3 HA3 HV3 hsa
      have HQ := Lib.hid (Key_ok HV4.out)
      rw [HY.out] at HQ
      have p0 := HD4.out.cell 0
      have p1 := HD4.out.cell 1
      have p2 := HD4.out.cell 2
      have p3 := HD4.out.cell 3
      have p4 := HD4.out.cell 4
      simp at p0 p1 p2 p3 p4
      go_wp2_with fail
      refine HQ.out.mono ?_
      clear HQ p0 p1 p2 p3 p4
      rintro e w5 ⟨kb, rfl, hsb, _, ho⟩
      have HSB := Lib.hid hsb
      have HO45 := Lib.hid ho
      have HO5 := Lib.hid (HO4.out.trans ho)
      have HB5 := Lib.hid (HB4.out.only ho (by simp))
      have HD5 := Lib.hid (HD4.out.only ho (by simp))
      have HA5 := Lib.hid (HA4.out.only0 ho)
      have HV5 := Lib.hid (HV4.out.only0 ho)
      clear ho HO4 HB4 HD4 HA4 HV4 hsb
      have HQ := Lib.hid (may_ok HA5.out)
      rw [may_item, HX.out] at HQ
      have p0 := HB5.out.cell 0
      have p1 := HB5.out.cell 1
      have p2 := HB5.out.cell 2
      have p3 := HB5.out.cell 3
      have p4 := HB5.out.cell 4
      simp at p0 p1 p2 p3 p4
      go_wp2_with fail
      refine HQ.out.mono ?_
      clear HQ p0 p1 p2 p3 p4
      rintro e w6 ⟨rfl, ho⟩
      have HO6 := Lib.hid (HO5.out.trans ho)
      have HB6 := Lib.hid (HB5.out.only ho (by simp))
      have HD6 := Lib.hid (HD5.out.only ho (by simp))
      have HA6 := Lib.hid (HA5.out.only0 ho)
      have HV6 := Lib.hid (HV5.out.only0 ho)
      have HO56 := Lib.hid ho
      clear ho HO5 HB5 HD5 HA5 HV5
      have HQ := Lib.hid (may_ok HV6.out)
      rw [may_item, HY.out] at HQ
      have p0 := HD6.out.cell 0
      have p1 := HD6.out.cell 1
      have p2 := HD6.out.cell 2
      have p3 := HD6.out.cell 3
      have p4 := HD6.out.cell 4
      simp at p0 p1 p2 p3 p4
      go_wp2_with fail
      refine HQ.out.mono ?_
      clear HQ p0 p1 p2 p3 p4
      rintro e w7 ⟨rfl, ho⟩
      have HO7 := Lib.hid (HO6.out.trans ho)
      have HB7 := Lib.hid (HB6.out.only ho (by simp))
      have HD7 := Lib.hid (HD6.out.only ho (by simp))
      have HA7 := Lib.hid (HA6.out.only0 ho)
      have HV7 := Lib.hid (HV6.out.only0 ho)
      have HO57 := Lib.hid (HO56.out.trans ho)
      clear ho HO6 HB6 HD6 HA6 HV6 HO56
      go_wp2
      exact bodyPost_ret (results_tmp rfl _ _ _) rfl ⟨rfl, HO7.out⟩
    | some y =>
      have HY := Lib.hid hy
      clear hy
      have HQ := Lib.hid (Key_ok HA3.out)
      rw [HX.out] at HQ
      have p0 := HB3.out.cell 0
      have p1 := HB3.out.cell 1
      have p2 := HB3.out.cell 2
      have p3 := HB3.out.cell 3
      have p4 := HB3.out.cell 4
      simp at p0 p1 p2 p3 p4
      go_wp2_with fail
      refine HQ.out.mono ?_
      clear HQ p0 p1 p2 p3 p4
      rintro e w4 ⟨ka, rfl, hsa, _, ho⟩
      have HSA := Lib.hid hsa
      have HO4 := Lib.hid (HO3.out.trans ho)
      have HB4 := Lib.hid (HB3.out.only ho (by simp))
      have HD4 := Lib.hid (HD3.out.only ho (by simp))
      have HA4 := Lib.hid (HA3.out.only0 ho)
      have HV4 := Lib.hid (HV3.out.only0 ho)
      clear ho HO3 HB3 HD3 HA3 HV3 hsa
      have HQ := Lib.hid (Key_ok HV4.out)
      rw [HY.out] at HQ
      have p0 := HD4.out.cell 0
      have p1 := HD4.out.cell 1
      have p2 := HD4.out.cell 2
      have p3 := HD4.out.cell 3
      have p4 := HD4.out.cell 4
      simp at p0 p1 p2 p3 p4
      go_wp2_with fail
      refine HQ.out.mono ?_
      clear HQ p0 p1 p2 p3 p4
      rintro e w5 ⟨kb, rfl, hsb, _, ho⟩
      have HSB := Lib.hid hsb
      have HO45 := Lib.hid ho
      have HO5 := Lib.hid (HO4.out.trans ho)
      have HB5 := Lib.hid (HB4.out.only ho (by simp))
      have HD5 := Lib.hid (HD4.out.only ho (by simp))
      have HA5 := Lib.hid (HA4.out.only0 ho)
      have HV5 := Lib.hid (HV4.out.only0 ho)
      clear ho HO4 HB4 HD4 HA4 HV4 hsb
      have HQ := Lib.hid (may_ok HA5.out)
      rw [may_item, HX.out] at HQ
      have p0 := HB5.out.cell 0
      have p1 := HB5.out.cell 1
      have p2 := HB5.out.cell 2
      have p3 := HB5.out.cell 3
      have p4 := HB5.out.cell 4
      simp at p0 p1 p2 p3 p4
      go_wp2_with fail
      refine HQ.out.mono ?_
      clear HQ p0 p1 p2 p3 p4
      rintro e w6 ⟨rfl, ho⟩
      have HO6 := Lib.hid (HO5.out.trans ho)
      have HB6 := Lib.hid (HB5.out.only ho (by simp))
      have HD6 := Lib.hid (HD5.out.only ho (by simp))
      have HA6 := Lib.hid (HA5.out.only0 ho)
      have HV6 := Lib.hid (HV5.out.only0 ho)
      have HO56 := Lib.hid ho
      clear ho HO5 HB5 HD5 HA5 HV5
      have HQ := Lib.hid (may_ok HV6.out)
      rw [may_item, HY.out] at HQ
      have p0 := HD6.out.cell 0
      have p1 := HD6.out.cell 1
      have p2 := HD6.out.cell 2
      have p3 := HD6.out.cell 3
      have p4 := HD6.out.cell 4
      simp at p0 p1 p2 p3 p4
      go_wp2_with fail
      refine HQ.out.mono ?_
      clear HQ p0 p1 p2 p3 p4
      rintro e w7 ⟨rfl, ho⟩
      have HO7 := Lib.hid (HO6.out.trans ho)
      have HB7 := Lib.hid (HB6.out.only ho (by simp))
      have HD7 := Lib.hid (HD6.out.only ho (by simp))
      have HA7 := Lib.hid (HA6.out.only0 ho)
      have HV7 := Lib.hid (HV6.out.only0 ho)
      have HO57 := Lib.hid (HO56.out.trans ho)
      clear ho HO6 HB6 HD6 HA6 HV6 HO56
      go_wp2
      have hba := (bytes_of_sl (show Sl w4 5 1 ka x.key.length (x.key.map bv) from HSA.out) (key_byte x)).only (HO45.out.trans HO57.out) (fun _ _ => by simp)
      have hbb := (bytes_of_sl (show Sl w5 5 1 kb y.key.length (y.key.map bv) from HSB.out) (key_byte y)).only HO57.out (fun _ _ => by simp)
      clear HSA HSB HO45 HO57
      obtain ⟨aa, capa, rfl, _, hma, _, hca⟩ := hba
      obtain ⟨ab, capb, rfl, _, hmb, _, hcb⟩ := hbb
      have l1 : 0 < x.key.length := by rw [I.key_eq]; simp
      have l2 : 0 < y.key.length := by rw [I.key_eq]; simp
      obtain ⟨g, on, rfl, hg, _, hg1⟩ := hca l1
      obtain ⟨g2, on2, rfl, hg2, _, hg3⟩ := hcb l2
      have HC1 := Lib.hid hg1
      have HC2 := Lib.hid hg3
      have HL1 := Lib.hid hg
      have HL2 := Lib.hid hg2
      have HK := Lib.hid (I.kord x y (HGA.out x HX.out) (HGB.out y HY.out))
      have HR := Lib.hid (I.rng x y)
      have HCM := Lib.hid (show a.cmp b = x.cmp y by unfold V.cmp; rw [HX.out, HY.out])
      have hlm : x.key.length ≤ maxLen := by omega
      have hlm2 : y.key.length ≤ maxLen := by omega
      unfold maxLen at hlm hlm2
      clear hca hcb hg1 hg3 hg hg2 HGA HGB HX HY hma hmb l1 l2
      go_loopw [9] (fun z wr => ∃ k : Nat, k ≤ x.key.length ∧ k ≤ y.key.length ∧ z = .int .i64 k ∧ Hid (x.key.take k = y.key.take k) ∧ Hid (Only [] w7 wr)) (fun z _ => x.key.length - (intOf z).toNat)
      case atStart => exact ⟨0, Nat.zero_le _, Nat.zero_le _, rfl, Lib.hid rfl, Lib.hid (Only.refl _ _)⟩
      case round =>
        obtain ⟨k, hk, hk2, rfl, HT, HO⟩ := hrel
        by_cases hgo : ∃ (h1 : k < x.key.length) (h2 : k < y.key.length), x.key[k] = y.key[k]
        · obtain ⟨h1, h2, he⟩ := hgo
          have hkz : (k : Int) < (x.key.length : Int) := by omega
          have hkz2 : (k : Int) < (y.key.length : Int) := by omega
          have x1 : wr.cell? ⟨g, on + k, none⟩ = some (bv x.key[k]) := (HO.out.cell (p := ⟨g, on + k, none⟩) HL1.out (by simp)).trans (HC1.out k h1)
          have x2 : wr.cell? ⟨g2, on2 + k, none⟩ = some (bv y.key[k]) := (HO.out.cell (p := ⟨g2, on2 + k, none⟩) HL2.out (by simp)).trans (HC2.out k h2)
          have hq : ((x.key[k] : Int) == (y.key[k] : Int)) = true := by rw [beq_iff_eq]; omega
          have HN := Lib.hid (show x.key.take (k + 1) = y.key.take (k + 1) by rw [List.take_succ_eq_append_getElem h1, List.take_succ_eq_append_getElem h2, HT.out, he])
          clear he
          go_wp2
          go_quiet (fail)
          go_wp2
          go_roundw
          case measure => simp [intOf]; omega
          case rel => exact ⟨k + 1, by omega, by omega, by go_num, HN, Lib.hid (HO.out.drewN _)⟩
        · obtain ⟨s0, s1, s2⟩ := stop_at HK.out hk hk2 HT.out hgo
          clear HK HT hgo
          have hr := HR.out
          unfold Rng at hr
          rcases (show x.cmp y = 0 ∨ x.cmp y = -1 ∨ x.cmp y = 1 by omega) with hc0 | hc0 | hc0
          · obtain ⟨e1, e2⟩ := s0 hc0
            have hz2 : ((x.key.length : Int) == (y.key.length : Int)) = true := by rw [beq_iff_eq]; omega
            obtain rfl : k = x.key.length := e1
            clear s0 s1 s2 hr HR HC1 HC2 HL1 HL2 e2
            have HQ0 := fun m => compare_ok (HA7.out.only0 (HO.out.drewN m)) (HV7.out.only0 (HO.out.drewN m))
            rw [HCM.out, hc0] at HQ0
            have HQ := Lib.hid HQ0
            have HBr := HB7.out.only HO.out (by simp)
            have HDr := HD7.out.only HO.out (by simp)
            have p0 := HBr.cell 0
            have p1 := HBr.cell 1
            have p2 := HBr.cell 2
            have p3 := HBr.cell 3
            have p4 := HBr.cell 4
            simp at p0 p1 p2 p3 p4
            have q0 := HDr.cell 0
            have q1 := HDr.cell 1
            have q2 := HDr.cell 2
            have q3 := HDr.cell 3
            have q4 := HDr.cell 4
            simp at q0 q1 q2 q3 q4
            clear HQ0 HBr HDr hc0 HB7 HD7
            go_wp2
            go_quiet (fail)
            go_wp2_with fail
            refine (HQ.out _).mono ?_
            clear HQ p0 p1 p2 p3 p4 q0 q1 q2 q3 q4
            rintro e w8 ⟨rfl, ho⟩
            have HO8 := Lib.hid (HO7.out.trans ((HO.out.drewN _).trans ho))
            go_wp2
            exact bodyPost_ret (results_tmp rfl _ _ _) rfl ⟨rfl, HO8.out⟩
          · obtain ⟨h1, h2, he⟩ := s1 (by omega)
            have hkz : (k : Int) < (x.key.length : Int) := by omega
            have hkz2 : (k : Int) < (y.key.length : Int) := by omega
            have hz : ((k : Int) == (x.key.length : Int)) = false := by rw [beq_eq_false_iff_ne]; omega
            have hz2 : ((k : Int) == (y.key.length : Int)) = false := by rw [beq_eq_false_iff_ne]; omega
            have x1 : wr.cell? ⟨g, on + k, none⟩ = some (bv x.key[k]) := (HO.out.cell (p := ⟨g, on + k, none⟩) HL1.out (by simp)).trans (HC1.out k h1)
            have x2 : wr.cell? ⟨g2, on2 + k, none⟩ = some (bv y.key[k]) := (HO.out.cell (p := ⟨g2, on2 + k, none⟩) HL2.out (by simp)).trans (HC2.out k h2)
            have hq : ((x.key[k] : Int) == (y.key[k] : Int)) = false := by rw [beq_eq_false_iff_ne]; omega
            have hlt : (x.key[k] : Int) < (y.key[k] : Int) := by omega
            clear s0 s1 s2 hr HR he
            have HQ0 := fun m => compare_ok (HA7.out.only0 (HO.out.drewN m)) (HV7.out.only0 (HO.out.drewN m))
            rw [HCM.out, hc0] at HQ0
            have HQ := Lib.hid HQ0
            have HBr := HB7.out.only HO.out (by simp)
            have HDr := HD7.out.only HO.out (by simp)
            have p0 := HBr.cell 0
            have p1 := HBr.cell 1
            have p2 := HBr.cell 2
            have p3 := HBr.cell 3
            have p4 := HBr.cell 4
            simp at p0 p1 p2 p3 p4
            have q0 := HDr.cell 0
            have q1 := HDr.cell 1
            have q2 := HDr.cell 2
            have q3 := HDr.cell 3
            have q4 := HDr.cell 4
            simp at q0 q1 q2 q3 q4
            clear HQ0 HBr HDr hc0 HB7 HD7
            go_wp2
            go_quiet (fail)
            go_wp2_with fail
            refine (HQ.out _).mono ?_
            clear HQ p0 p1 p2 p3 p4 q0 q1 q2 q3 q4
            rintro e w8 ⟨rfl, ho⟩
            have HO8 := Lib.hid (HO7.out.trans ((HO.out.drewN _).trans ho))
            have y1 : w8.cell? ⟨g, on + k, none⟩ = some (bv x.key[k]) := (((HO.out.drewN _).trans ho).cell (p := ⟨g, on + k, none⟩) HL1.out (by simp)).trans (HC1.out k h1)
            have y2 : w8.cell? ⟨g2, on2 + k, none⟩ = some (bv y.key[k]) := (((HO.out.drewN _).trans ho).cell (p := ⟨g2, on2 + k, none⟩) HL2.out (by simp)).trans (HC2.out k h2)
            clear ho HC1 HC2 HL1 HL2
            go_wp2
            go_quiet (fail)
            go_wp2
            exact bodyPost_ret (results_tmp rfl _ _ _) rfl ⟨rfl, HO8.out.drewN _⟩
          · obtain ⟨h1, h2, he⟩ := s2 (by omega)
            have hkz : (k : Int) < (x.key.length : Int) := by omega
            have hkz2 : (k : Int) < (y.key.length : Int) := by omega
            have hz : ((k : Int) == (x.key.length : Int)) = false := by rw [beq_eq_false_iff_ne]; omega
            have hz2 : ((k : Int) == (y.key.length : Int)) = false := by rw [beq_eq_false_iff_ne]; omega
            have x1 : wr.cell? ⟨g, on + k, none⟩ = some (bv x.key[k]) := (HO.out.cell (p := ⟨g, on + k, none⟩) HL1.out (by simp)).trans (HC1.out k h1)
            have x2 : wr.cell? ⟨g2, on2 + k, none⟩ = some (bv y.key[k]) := (HO.out.cell (p := ⟨g2, on2 + k, none⟩) HL2.out (by simp)).trans (HC2.out k h2)
            have hq : ((x.key[k] : Int) == (y.key[k] : Int)) = false := by rw [beq_eq_false_iff_ne]; omega
            have hlt : decide ((x.key[k] : Int) < (y.key[k] : Int)) = false := decide_eq_false (by omega)
            have hlt2 : ¬ ((x.key[k] : Int) < (y.key[k] : Int)) := by omega
            clear s0 s1 s2 hr HR he
            have HQ0 := fun m => compare_ok (HA7.out.only0 (HO.out.drewN m)) (HV7.out.only0 (HO.out.drewN m))
            rw [HCM.out, hc0] at HQ0
            have HQ := Lib.hid HQ0
            have HBr := HB7.out.only HO.out (by simp)
            have HDr := HD7.out.only HO.out (by simp)
            have p0 := HBr.cell 0
            have p1 := HBr.cell 1
            have p2 := HBr.cell 2
            have p3 := HBr.cell 3
            have p4 := HBr.cell 4
            simp at p0 p1 p2 p3 p4
            have q0 := HDr.cell 0
            have q1 := HDr.cell 1
            have q2 := HDr.cell 2
            have q3 := HDr.cell 3
            have q4 := HDr.cell 4
            simp at q0 q1 q2 q3 q4
            clear HQ0 HBr HDr hc0 HB7 HD7
            go_wp2
            go_quiet (fail)
            go_wp2_with fail
            refine (HQ.out _).mono ?_
            clear HQ p0 p1 p2 p3 p4 q0 q1 q2 q3 q4
            rintro e w8 ⟨rfl, ho⟩
            have HO8 := Lib.hid (HO7.out.trans ((HO.out.drewN _).trans ho))
            have y1 : w8.cell? ⟨g, on + k, none⟩ = some (bv x.key[k]) := (((HO.out.drewN _).trans ho).cell (p := ⟨g, on + k, none⟩) HL1.out (by simp)).trans (HC1.out k h1)
            have y2 : w8.cell? ⟨g2, on2 + k, none⟩ = some (bv y.key[k]) := (((HO.out.drewN _).trans ho).cell (p := ⟨g2, on2 + k, none⟩) HL2.out (by simp)).trans (HC2.out k h2)
            clear ho HC1 HC2 HL1 HL2
            go_wp2
            go_quiet (fail)
            go_wp2
            exact bodyPost_ret (results_tmp rfl _ _ _) rfl ⟨rfl, HO8.out.drewN _⟩
end Go.Proofs.Ytffdfegelgpniaa
