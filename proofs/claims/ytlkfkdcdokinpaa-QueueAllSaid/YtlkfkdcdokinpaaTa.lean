/-
  The queue's Leave: the closure, slices.IndexFunc, slices.Clone.
-/
import Derived.Test.YtlkfkdcdokinpaaQj
import Derived.Lib.LazyBuf
namespace Go.Proofs.Ytlkfkdcdokinpaa
open Go.RowKit Go.Fl

set_option maxHeartbeats 400000 in
theorem isid_ok (x : Item) (id : Int) (g : Nat) (w : World) (hB : Blk w g 2 #[.int .i64 id]) :
    Calls Try.prog 35 #[.agg #[.int .i64 x.1, .int .i64 x.2], .pointer (some ⟨g, 0, none⟩)] w fun e w' => e = .returned (.bool (decide (x.1 = id))) ∧ Only [] w w' := by
  obtain ⟨hcell, hfz, hlt⟩ := hB.facts
  clear hB
  by_cases h : x.1 = id
  · go_enter Try.func35, Try.ntmps35
    go_wp2
    go_ret
    exact ⟨by simp [h], by (repeat (first | with_reducible exact Only.refl _ _ | with_reducible exact Only.refl [] w | with_reducible refine Only.drew ?_ | with_reducible refine Only.drewN ?_ _ | with_reducible refine Only.alloc ?_ _ | ((with_reducible refine Only.setCell ?_ ?_ _); rotate_left; (focus (first | (left; simp; done) | (right; simp; done) | (right; simp; omega) | (right; omega))))))⟩
  · go_enter Try.func35, Try.ntmps35
    go_wp2
    go_ret
    exact ⟨by simp [h], by (repeat (first | with_reducible exact Only.refl _ _ | with_reducible exact Only.refl [] w | with_reducible refine Only.drew ?_ | with_reducible refine Only.drewN ?_ _ | with_reducible refine Only.alloc ?_ _ | ((with_reducible refine Only.setCell ?_ ?_ _); rotate_left; (focus (first | (left; simp; done) | (right; simp; done) | (right; simp; omega) | (right; omega))))))⟩

def findId (id : Int) (line : List Item) : Option Nat := line.findIdx? fun x => x.1 == id
def idxV (o : Option Nat) : Value := .int .i64 (match o with | none => -1 | some i => (i : Int))

theorem findId_some {id : Int} {line : List Item} {k : Nat} (hk : k < line.length) (h : line[k].1 = id) (hn : ∀ j (h : j < line.length), j < k → line[j].1 ≠ id) : findId id line = some k := by
  unfold findId
  rw [List.findIdx?_eq_some_iff_getElem]
  exact ⟨hk, by simpa using h, fun j hj => by simpa using hn j (by omega) hj⟩
theorem findId_none {id : Int} {line : List Item} (hn : ∀ j (h : j < line.length), line[j].1 ≠ id) : findId id line = none := by
  unfold findId
  rw [List.findIdx?_eq_none_iff]
  intro x hx
  obtain ⟨j, hj, rfl⟩ := List.mem_iff_getElem.1 hx
  simpa using hn j hj
theorem findId_lt {id : Int} {line : List Item} {k : Nat} (h : findId id line = some k) : ∃ hk : k < line.length, line[k].1 = id := by
  unfold findId at h
  rw [List.findIdx?_eq_some_iff_getElem] at h
  obtain ⟨hk, h1, _⟩ := h
  exact ⟨hk, by simpa using h1⟩

set_option maxHeartbeats 400000 in
theorem index_ok {v : Value} {line : List Item} (id : Int) (g : Nat) (w : World) (hS : Sl w 38 2 v line.length (cells line)) (hB : Blk w g 2 #[.int .i64 id]) (hl : line.length ≤ 4096) :
    Calls Try.prog 34 #[v, .func (.func 35) #[] #[.pointer (some ⟨g, 0, none⟩)]] w fun e w' => e = .returned (idxV (findId id line)) ∧ Only [] w w' := by
  obtain ⟨a, c, hv, hc, _⟩ := hS.shape
  have HC : ∀ (x : Item) (w1 : World), Only [] w w1 → Hid (Calls Try.prog 35 #[.agg #[.int .i64 x.1, .int .i64 x.2], .pointer (some ⟨g, 0, none⟩)] w1 fun e w' => e = .returned (.bool (decide (x.1 = id))) ∧ Only [] w1 w') := fun x w1 ho => Lib.hid (isid_ok x id g w1 (hB.only ho (by simp)))
  have H := Lib.hid hS
  clear hS hB
  subst hv
  go_enter Try.func34, Try.ntmps34
  go_wp2
  go_loopg [5, 8] line.length (fun gg _ s8 wr => ∃ k : Nat, k ≤ line.length ∧ line.length - k ≤ gg ∧ s8 = .int .i64 k ∧ Hid (Only [] w wr) ∧ Hid (∀ j (h : j < line.length), j < k → line[j].1 ≠ id))
  case atStart => exact ⟨0, Nat.zero_le _, by omega, rfl, Lib.hid (Only.refl _ _), Lib.hid (fun j _ h => by omega)⟩
  case round =>
    obtain ⟨k, hk, hgg, rfl, HO, HN⟩ := hrel
    by_cases hkl : k < line.length
    · have hkz : (k : Int) < (line.length : Int) := by omega
      obtain ⟨g2, o, c', hv, hg, _, _, hcc, _⟩ := (H.out.only HO.out (by simp)).form (by omega)
      injection hv with hva hvl hvc
      subst hva
      subst hvc
      clear hvl
      have hx : line[k]? = some line[k] := List.getElem?_eq_getElem hkl
      have e1 := (hcc (k * 2) (by omega)).trans (cells_at line k _ hx).1
      have e2 := (hcc (k * 2 + 1) (by omega)).trans (cells_at line k _ hx).2
      rw [← Nat.add_assoc] at e2
      have HCk := HC line[k] wr HO.out
      clear hcc hx HC
      by_cases hid : line[k].1 = id
      · have HT := Lib.hid (findId_some hkl hid HN.out)
        rw [decide_eq_true hid] at HCk
        clear hid
        go_wp2_with (go_at_call 35; refine HCk.out.mono ?_; rintro e w' ⟨rfl, ho⟩; have HO2 := Lib.hid (HO.out.trans ho); clear ho)
        go_ret
        exact ⟨by rw [HT.out]; rfl, HO2.out⟩
      · have HD := Lib.hid hid
        rw [decide_eq_false hid] at HCk
        clear hid
        go_wp2_with (go_at_call 35; refine HCk.out.mono ?_; rintro e w' ⟨rfl, ho⟩; have HO2 := Lib.hid (HO.out.trans ho); clear ho)
        go_roundg (line.length - (k + 1))
        case measure => omega
        case rel => exact ⟨k + 1, by omega, by omega, by go_num, HO2, Lib.hid (fun j h hj => by
          rcases Nat.lt_succ_iff_lt_or_eq.1 hj with hj | hj
          · exact HN.out j h hj
          · subst hj; exact HD.out)⟩
    · have hkz : ¬ (k : Int) < (line.length : Int) := by omega
      have HT := Lib.hid (findId_none (id := id) (line := line) fun j hj => HN.out j hj (by omega))
      go_wp2
      go_ret
      exact ⟨by rw [HT.out]; rfl, HO.out⟩

set_option maxHeartbeats 400000 in
theorem clone_ok {v : Value} {line : List Item} (w : World) (hS : Sl w 38 2 v line.length (cells line)) (h0 : 0 < line.length) (hl : line.length ≤ 4096) :
    Calls Try.prog 37 #[v] w fun e w' => ∃ v', e = .returned v' ∧ Fresh w w' v' line ∧ Only [] w w' := by
  obtain ⟨j0, hi, hz0, hz1, hz2⟩ := info_parts info38
  obtain ⟨g, o, c, hv, hg, _, _, _, _⟩ := hS.form h0
  have H := Lib.hid hS
  clear hS
  have hq : ∀ (w : World) (a : Option Addr) (n c : Nat), (binOp .eql 31 (.slice a n c) (.slice none 0 0)).run Try.prog w = .ok (.bool a.isNone) w := fun w a n c => run_eql_slice_nil w _ _ a n c Try.underlying31
  have HN := Lib.hid (show Sl (w.alloc (.cells #[] 38)) 38 2 (.slice (some ⟨w.heap.size, 0, none⟩) 0 0) 0 [] from ⟨by simp, .inr ⟨_, 0, 0, _, rfl, heap_alloc_new w _, by omega, by unfold maxLen; omega, by simp, by simp⟩⟩)
  subst hv
  go_enter Try.func37, Try.ntmps37
  go_wp2_with (at_builtin; refine wpList_append_sls rfl (.tmp 5) (.tmp 6) 31 rfl 38 j0 _ 2 16 Try.underlying31 hi hz0 hz1 hz2 rfl (by decide) rfl HN.out rfl (H.out.alloc _) (cells_one _) (by unfold maxLen; omega) (by omega) ?_)
  intro v2 w2 hS2 hg2 hat2
  have HF := Lib.hid (show Fresh w w2 v2 line from ⟨by simpa using hS2, fun g hg => by
    rcases hat2 with hh | hh
    · rw [hh] at hg; simp [Value.ownBlock] at hg; omega
    · rw [hh] at hg; simp at hg; omega⟩)
  have HO := Lib.hid (show Only [] w w2 from ((Only.refl [] w).alloc _).grown hg2 (fun k hk => .inr (by simp [Value.ownBlock] at hk; omega)))
  clear hS2 hg2 hat2
  go_wp2
  go_ret
  exact ⟨_, rfl, HF.out, HO.out⟩
end Go.Proofs.Ytlkfkdcdokinpaa
