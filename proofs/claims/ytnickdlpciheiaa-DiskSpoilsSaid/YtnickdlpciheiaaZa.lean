/-
  append(s, make([]T, n)...): elements of one cell.
-/
import Derived.Test.YtnickdlpciheiaaCuts
import Derived.Lib.AppendZeros
set_option linter.unusedSimpArgs false
set_option linter.unusedVariables false
namespace Go.Fl
open Go.RowKit

theorem zc_one (z : Value) (m : Nat) : (Builtin.zeroCells #[z] m).toList = List.replicate m z := by
  unfold Builtin.zeroCells
  apply List.ext_getElem
  · simp
  · intro i h1 h2
    simp [Nat.mod_one]
theorem run_append_zsl {P : Program} {w : World} {e : TypeId} (t tn ty : TypeId) (i : TypeInfo) (z : Value) (bytes : Nat) (ht : P.underlying t = some (.slice e)) (htn : P.underlying tn = some (.int .i64)) (hi : P.info? e = some i) (hz : i.zero = some z)
    (hsize : i.size = 1) (hby : i.bytes = bytes) (hzs : z.cells = #[z]) (h1 : z.oneCell' = true)
    {v : Value} {n : Nat} {xs : List Value} (hown : Sl w e 1 v n xs) (m : Nat) (h63 : n + m ≤ maxLen) (hbytes : (n + m) * bytes ≤ 140737488355328) :
    ∃ v' w', (Builtin.append_ #[t, tn] ty #[v, .int .i64 m]).run P w = .ok v' w' ∧ Sl w' e 1 v' (n + m) (xs ++ List.replicate m z) ∧ w.grownBy w' v.ownBlock ∧
      (v'.ownBlock = v.ownBlock ∨ v'.ownBlock = some w.heap.size) := by
  subst hby
  have hw : IntKind.i64.wrap (m : Int) = m := by rw [IntKind.wrap_i64]; simp only [maxLen] at h63; omega
  have hneg : ¬ ((m : Int) < 0) := by omega
  have hmb : m * i.bytes ≤ 140737488355328 := Nat.le_trans (Nat.mul_le_mul_right _ (Nat.le_add_left _ _)) hbytes
  have h48i : ¬ (281474976710656 < (m : Int) * (i.bytes : Int)) := by
    rw [← Int.natCast_mul]
    omega
  have hlx := hown.1
  rcases hown.2 with ⟨rfl, rfl⟩ | ⟨g, off, cap, cur, rfl, hh, hc, hm, hs, htake⟩
  · have hx : xs = [] := List.eq_nil_of_length_eq_zero (by simpa using hlx)
    subst hx
    rcases Nat.eq_zero_or_pos m with h0 | h0
    · subst h0
      refine ⟨.slice none 0 0, w, ?_, by simpa using hown, ⟨rfl, rfl, rfl, Nat.le_refl _, fun _ _ _ => rfl⟩, .inl rfl⟩
      have hw0 : IntKind.i64.wrap 0 = 0 := by decide
      simp [Builtin.append_, run_underlying ht, run_underlying htn, sizeOf, typeInfo, hi, asInt, asIntOf, hw0]
    · have hr := Go.Lib.run_append_nil_zeros (P := P) w t tn ty e i z .i64 .i64 ht htn hi hz m h0 (by omega) (by simp only [maxLen] at h63; omega) (by omega)
      have hge := grownCap_ge w m 0 e
      have hcm : grownCap w m 0 e ≤ maxLen := grownCap_le_maxLen w m 0 e (by omega)
      refine ⟨_, _, hr, ⟨by simp, .inr ⟨w.heap.size, 0, _, _, by rw [Nat.zero_add], heap_alloc_new w.drew _, by omega, hcm, ?_, ?_⟩⟩, ⟨rfl, rfl, rfl, by simp, fun k hk _ => Below.heap_alloc w.drew _ k hk⟩, .inr rfl⟩
      · rw [hzs]
        have h2 := congrArg List.length (zc_one z m)
        have h3 := congrArg List.length (zc_one z (grownCap w m 0 e - m))
        simp at h2 h3 ⊢
        omega
      · rw [hzs, List.drop_zero, Array.toList_append, zc_one, zc_one]
        simp
  · by_cases hroom : n + m ≤ cap
    · have hst := run_storeCells_at P g (off + n) e (List.replicate m z) 0 cur w hh (by simp; omega) (fun u hu => by rw [List.eq_of_mem_replicate hu]; exact h1)
      simp only [Nat.add_zero, List.length_replicate] at hst
      have hz0 : (Builtin.zeroCells #[z] m).toList = List.replicate m z := zc_one z m
      have hr : (Builtin.append_ #[t, tn] ty #[.slice (some ⟨g, off, none⟩) n cap, .int .i64 m]).run P w =
          .ok (.slice (some ⟨g, off, none⟩) (n + m) cap) (w.setRow g (cur.toList.take (off + n) ++ List.replicate m z ++ cur.toList.drop (off + n + m)).toArray) := by
        rcases Nat.eq_zero_or_pos m with h0 | h0
        · subst h0
          have hw0 : IntKind.i64.wrap 0 = 0 := by decide
          simp at hst
          simp [Builtin.append_, run_underlying ht, run_underlying htn, sizeOf, typeInfo, hi, asInt, asIntOf, hw0, hsize, hc, Addr.add_lit, hst]
        · have hn : m ≠ 0 := by omega
          simp [Builtin.append_, run_underlying ht, run_underlying htn, sizeOf, typeInfo, zeroValue, hi, hz, asInt, asIntOf, hw, hn, hneg, h48i, hsize, hroom, hzs, hz0, Addr.add_lit, hst]
      refine ⟨_, _, hr, ⟨?_, .inr ⟨g, off, cap, _, rfl, setRow_heap w g cur _ e _ hh, hroom, hm, ?_, ?_⟩⟩, ⟨rfl, rfl, rfl, by simp, fun k _ hk => setRow_other w g k _ (fun e => hk (by simp [Value.ownBlock, e]))⟩, .inl rfl⟩
      · simp [hlx]
      · simp only [List.size_toArray, List.length_append, List.length_take, List.length_drop, Array.length_toList, List.length_replicate]
        omega
      · simp only [Nat.mul_one] at htake hlx hs ⊢
        have hlen : (cur.toList.take (off + n)).length = off + n := by rw [List.length_take, Array.length_toList]; omega
        simp only [List.append_assoc]
        rw [List.drop_append_of_le_length (by omega), List.drop_take]
        have e1 : off + n - off = n := by omega
        rw [e1, htake, ← List.append_assoc]
        have hx : (xs ++ List.replicate m z).length = n + m := by rw [List.length_append, hlx, List.length_replicate]
        rw [← hx]
        exact List.take_left
    · have hm0 : m ≠ 0 := by omega
      have hn : ¬ (n + m ≤ cap) := hroom
      have h63' : ¬ (9223372036854775807 < ((n : Int) + (m : Int))) := by simp only [maxLen] at h63; omega
      have hfit := growslice_fits (show cap < n + m by omega) hbytes
      have h48' : ¬ (281474976710656 < Builtin.nextslicecap (n + m) cap * i.bytes) := by omega
      have holds : ∀ j u, xs[j]? = some u → w.drew.cell? ((⟨g, off, none⟩ : Addr).add j) = some u := Sl.cells_ (hown.drew)
      have hfo := run_firstCells_some (P := P) w.drew 1 n ⟨g, off, none⟩ n cap xs hlx holds
      have hr : (Builtin.append_ #[t, tn] ty #[.slice (some ⟨g, off, none⟩) n cap, .int .i64 m]).run P w =
          .ok (.slice (some ⟨w.heap.size, 0, none⟩) (n + m) (grownCap w (n + m) cap e)) (w.drew.alloc (.cells (xs.toArray ++ Builtin.zeroCells #[z] m ++ Builtin.zeroCells #[z] (grownCap w (n + m) cap e - (n + m))) e)) := by
        simp [Builtin.append_, run_underlying ht, run_underlying htn, sizeOf, typeInfo, zeroValue, hi, hz, asInt, asIntOf, hw, hm0, hn, hneg, h63', h48', h48i, hsize, hzs, Question.forced, hfo, newRow, grownCap]
      have hge := grownCap_ge w (n + m) cap e
      have hcm : grownCap w (n + m) cap e ≤ maxLen := grownCap_le_maxLen w (n + m) cap e h63
      refine ⟨_, _, hr, ⟨by simp [hlx], .inr ⟨w.heap.size, 0, _, _, rfl, heap_alloc_new w.drew _, hge, hcm, ?_, ?_⟩⟩, ⟨rfl, rfl, rfl, by simp, fun k hk _ => Below.heap_alloc w.drew _ k hk⟩, .inr rfl⟩
      · have h2 := congrArg List.length (zc_one z m)
        have h3 := congrArg List.length (zc_one z (grownCap w (n + m) cap e - (n + m)))
        simp at h2 h3 hlx ⊢
        omega
      · simp only [List.drop_zero, Array.toList_append, zc_one, Nat.mul_one]
        have hx : (xs ++ List.replicate m z).length = n + m := by simp at hlx; rw [List.length_append, hlx, List.length_replicate]
        rw [← hx]
        exact List.take_left
theorem wpList_append_zsl {P : Program} {w : World} {ops : Array Oper} {rest : List Oper} {o : Oper} {a : Act} {Q : Exit → Act → World → Prop} (hgd : o.guard = none) (s x : Operand) (t tn : TypeId)
    (ho : o.op = .call { callee := .builtin .append, args := #[s, x], argTypes := #[t, tn] })
    (e : TypeId) (i : TypeInfo) (z : Value) (bytes : Nat) (ht : P.underlying t = some (.slice e)) (htn : P.underlying tn = some (.int .i64)) (hi : P.info? e = some i) (hz : i.zero = some z)
    (hsize : i.size = 1) (hby : i.bytes = bytes) (hzs : z.cells = #[z]) (h1 : z.oneCell' = true)
    {v : Value} {n : Nat} {xs : List Value} (hs : a.eval s = v) (hown : Sl w e 1 v n xs) {m : Nat} (hx : a.eval x = .int .i64 m) (h63 : n + m ≤ maxLen) (hbytes : (n + m) * bytes ≤ 140737488355328)
    (h : ∀ v' w', Sl w' e 1 v' (n + m) (xs ++ List.replicate m z) → w.grownBy w' v.ownBlock → (v'.ownBlock = v.ownBlock ∨ v'.ownBlock = some w.heap.size) → wpList P ops Q rest (a.put o.dst v') w') : wpList P ops Q (o :: rest) a w := by
  refine wpList_plain hgd fun K hK => ?_
  obtain ⟨v', w', hr, h2, h3, h4⟩ := run_append_zsl (P := P) t tn o.type i z bytes ht htn hi hz hsize hby hzs h1 hown m h63 hbytes
  unfold Oper.wp execOp
  simp only [ho, resolve, invoke, builtin, Sem.run_bind, Sem.run_pure, Result.andThen_ok, List.map_toArray, List.map_cons, List.map_nil, hs, hx, hr]
  exact hK _ _ (h v' w' h2 h3 h4)
end Go.Fl
