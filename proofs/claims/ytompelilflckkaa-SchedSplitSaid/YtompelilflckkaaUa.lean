/-
  The scheduler's Run: what is refused; its middle.
-/
import Derived.Test.YtompelilflckkaaSz
namespace Go.Proofs.Ytompelilflckkaa
open Go.RowKit Go.Fl

/-- append of cells that lie anywhere, as one step of a region. -/
theorem step_append_sl {P : Program} {w : World} {ops : Array Oper} {o : Oper} {a : Act} {K : Act → World → Prop} {Q : Exit → Act → World → Prop} {E : Prop} (hgd : o.guard = none) (s x : Operand) (t : TypeId)
    (ho : o.op = .call { callee := .builtin .append, args := #[s, x], argTypes := #[t, t] })
    (e : TypeId) (i : TypeInfo) (z : Value) (size bytes : Nat) (ht : P.underlying t = some (.slice e)) (hi : P.info? e = some i) (hz : i.zero = some z)
    (hsize : i.size = size) (hby : i.bytes = bytes) (hzs : z.cells.size = size) (hsz : 0 < size)
    {v : Value} {n : Nat} {xs : List Value} (hs : a.eval s = v) (hown : Sl w e size v n xs)
    (ad : Addr) (m c : Nat) (news : List Value) (hx : a.eval x = .slice (some ad) m c) (hl : news.length = m * size) (hnews : ∀ j u, news[j]? = some u → w.cell? (ad.add j) = some u) (h1 : ∀ u ∈ news, u.oneCell' = true)
    (h63 : n + m ≤ maxLen) (hbytes : (n + m) * bytes ≤ 140737488355328)
    (h : ∀ v' w', Sl w' e size v' (n + m) (xs ++ news) → w.grownBy w' v.ownBlock → (v'.ownBlock = v.ownBlock ∨ v'.ownBlock = some w.heap.size) → K (a.put o.dst v') w') :
    if Region.wanted o (yielded ops a.tmps) = true then Oper.wp P o a w K Q else E := by
  have hw : Region.wanted o (yielded ops a.tmps) = true := by simp [Region.wanted, hgd]
  rw [if_pos hw]
  obtain ⟨v', w', hr, h2, h3, h4⟩ := run_append_sl (P := P) t o.type e i z size bytes ht hi hz hsize hby hzs hsz hown ad m c news hl hnews h1 h63 hbytes
  unfold Oper.wp execOp
  simp only [ho, resolve, invoke, builtin, Sem.run_bind, Sem.run_pure, Result.andThen_ok, List.map_toArray, List.map_cons, List.map_nil, hs, hx, hr]
  exact h v' w' h2 h3 h4

set_option maxRecDepth 100000 in
set_option maxHeartbeats 3200000 in
theorem run_bad {w : World} {tv pv : Value} {acts : List (List A)} {ps : List Int} (room most : Int) (h : TasksV w.heap.size w tv acts) (hp : Row intv w pv ps) (hk : askedM acts room ps most ≠ 0) :
    Calls Try.prog 15 #[tv, iv room, pv, iv most] w fun e w' => e = .returned (.tuple #[.agg #[iv 0, .slice none 0 0, .slice none 0 0, .slice none 0 0, .slice none 0 0], iv (askedM acts room ps most)]) ∧ Only [] w w' := by
  have hO := (Only.refl [] w).alloc (.cells #[iv 0, .slice none 0 0, .slice none 0 0, .slice none 0 0, .slice none 0 0] 33)
  have HA := Lib.hid (asked_ok (base := w.heap.size) room most (h.below (Below.of_only hO (Nat.le_refl _))) (by simp) (hp.only hO))
  have hz : (askedM acts room ps most == 0) = false := by simpa using hk
  have hbk : Blk (w.alloc (.cells #[iv 0, .slice none 0 0, .slice none 0 0, .slice none 0 0, .slice none 0 0] 33)) w.heap.size 33 #[iv 0, .slice none 0 0, .slice none 0 0, .slice none 0 0, .slice none 0 0] := Blk.new _ _ _
  generalize askedM acts room ps most = m at *
  go_enter Try.func15, Try.ntmps15
  go_wp2_with fail
  refine HA.out.mono ?_
  clear HA
  rintro e w1 ⟨rfl, hO1⟩
  have HB := Lib.hid (hbk.only hO1 (by simp))
  have HO := Lib.hid (hO.trans hO1)
  obtain ⟨hcb, hfb, hlb⟩ := HB.out.facts
  clear hbk hO hO1
  go_wp2
  refine bodyPost_ret (v := .tuple #[.agg #[iv 0, .slice none 0 0, .slice none 0 0, .slice none 0 0, .slice none 0 0], iv m]) (results2 rfl (res_blk Try.underlying33 (by kernel_rfl) rfl (cs := [iv 0, .slice none 0 0, .slice none 0 0, .slice none 0 0, .slice none 0 0]) ?_) (res_tmp rfl)) rfl ⟨rfl, ?_⟩
  · (repeat' (first | with_reducible exact HB.out | with_reducible apply Blk.drew | with_reducible apply Blk.drewN | with_reducible apply Blk.alloc | ((with_reducible apply Blk.far); rotate_left; (focus (simp <;> omega))) | with_reducible apply Blk.set' | with_reducible exact SetEq.rfl' | (simp [SetEq]; done) | (simp [SetEq]; omega)))
  · (repeat (first | with_reducible exact Only.refl _ _ | with_reducible exact HO.out | with_reducible refine Only.drew ?_ | with_reducible refine Only.drewN ?_ _ | with_reducible refine Only.alloc ?_ _ | ((with_reducible refine Only.setCell ?_ ?_ _); rotate_left; (focus (first | (left; simp; done) | (right; simp; done) | (right; simp; omega) | (right; omega))))))
end Go.Proofs.Ytompelilflckkaa
