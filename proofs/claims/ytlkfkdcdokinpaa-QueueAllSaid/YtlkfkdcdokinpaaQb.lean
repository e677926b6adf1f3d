import Derived.Test.YtlkfkdcdokinpaaQa
namespace Go.Proofs.Ytlkfkdcdokinpaa
open Go.RowKit Go.Fl

abbrev Item := Int × Int
def cells (l : List Item) : List Value := l.flatMap fun x => [.int .i64 x.1, .int .i64 x.2]
theorem cells_length (l : List Item) : (cells l).length = l.length * 2 := by
  induction l with
  | nil => rfl
  | cons x l ih => simp only [cells, List.flatMap_cons, List.length_append, List.length_cons, List.length_nil] at *; omega
theorem cells_append (l m : List Item) : cells (l ++ m) = cells l ++ cells m := by simp [cells]
theorem cells_one (l : List Item) : ∀ u ∈ cells l, u.oneCell' = true := by
  intro u hu
  simp only [cells, List.mem_flatMap] at hu
  obtain ⟨x, _, hx⟩ := hu
  simp only [List.mem_cons, List.not_mem_nil, or_false] at hx
  rcases hx with rfl | rfl <;> rfl
theorem cells_at : ∀ (l : List Item) (i : Nat) (x : Item), l[i]? = some x → (cells l)[i * 2]? = some (.int .i64 x.1) ∧ (cells l)[i * 2 + 1]? = some (.int .i64 x.2)
  | [], _, _, h => by simp at h
  | y :: l, 0, x, h => by simp at h; subst h; exact ⟨rfl, rfl⟩
  | y :: l, i + 1, x, h => by
    have ih := cells_at l i x (by simpa using h)
    have e : cells (y :: l) = .int .i64 y.1 :: .int .i64 y.2 :: cells l := rfl
    rw [e, show (i + 1) * 2 = i * 2 + 2 by omega]
    exact ih

/-- The ring holds these items. -/
def RingIs (w : World) (l : Value) (f n : Nat) (held : List Item) : Prop :=
  held.length = n ∧ ((l = .slice none 0 0 ∧ n = 0 ∧ f = 0) ∨
    ∃ r L cur, l = .slice (some ⟨r, 0, none⟩) L L ∧ Blk w r 38 cur ∧ cur.size = L * 2 ∧ f < L ∧ n ≤ L ∧ L ≤ 4096 ∧
      ∀ i x, held[i]? = some x → cur[(f + i) % L * 2]? = some (.int .i64 x.1) ∧ cur[(f + i) % L * 2 + 1]? = some (.int .i64 x.2))
section
variable {w w' : World} {l : Value} {f n : Nat} {held : List Item}
theorem RingIs.keep (h : RingIs w l f n held) (hk : ∀ g, l.ownBlock = some g → w'.heap[g]? = w.heap[g]?) : RingIs w' l f n held := by
  refine ⟨h.1, ?_⟩
  rcases h.2 with h2 | ⟨r, L, cur, rfl, hb, rest⟩
  · exact .inl h2
  · exact .inr ⟨r, L, cur, rfl, (hk r rfl).trans hb, rest⟩
theorem RingIs.lt (h : RingIs w l f n held) : ∀ g, l.ownBlock = some g → g < w.heap.size := by
  intro g hg
  rcases h.2 with ⟨rfl, _⟩ | ⟨r, L, cur, rfl, hb, _⟩
  · cases hg
  · simp [Value.ownBlock] at hg; subst hg; exact hb.lt
theorem RingIs.only {S : List Nat} (h : RingIs w l f n held) (ho : Only S w w') (hS : ∀ g, l.ownBlock = some g → g ∉ S) : RingIs w' l f n held := h.keep fun g hg => ho.block g (h.lt g hg) (hS g hg)
end

theorem at_ok {q : Nat} {cap bytes used : Int} {line ids l : Value} {f n : Nat} {held : List Item} (k : Nat) (x : Item) (w : World) (hB : QB w q cap bytes used l f n line ids) (hR : RingIs w l f n held) (hx : held[k]? = some x) :
    Calls Try.prog 26 #[.pointer (some ⟨q, 3, none⟩), .int .i64 k] w fun e w' => e = .returned (.agg #[.int .i64 x.1, .int .i64 x.2]) ∧ Only [] w w' := by
  have hk : k < held.length := (List.getElem?_eq_some_iff.1 hx).1
  have hn := hR.1
  rcases hR.2 with ⟨_, h0, _⟩ | ⟨r, L, cur, rfl, hb, _, hf, hnl, hL, hc⟩
  · omega
  · exact at_walk q r L L f n k cap bytes used x.1 x.2 line ids cur w hB hb hL hf (by omega) (hc k x hx).1 (hc k x hx).2

theorem pop_ok {q : Nat} {cap bytes used : Int} {line ids l : Value} {f n : Nat} {x : Item} {held : List Item} (w : World) (hB : QB w q cap bytes used l f n line ids) (hR : RingIs w l f n (x :: held)) (hq : l.ownBlock ≠ some q) :
    Calls Try.prog 27 #[.pointer (some ⟨q, 3, none⟩)] w fun e w' => e = .returned (.agg #[.int .i64 x.1, .int .i64 x.2]) ∧ ∃ f' : Nat, QB w' q cap bytes used l f' (n - 1 : Nat) line ids ∧ RingIs w' l f' (n - 1) held ∧ Only [q] w w' := by
  have hn := hR.1
  simp only [List.length_cons] at hn
  rcases hR.2 with ⟨_, h0, _⟩ | ⟨r, L, cur, rfl, hb, hsz, hf, hnl, hL, hc⟩
  · omega
  · have h0 := hc 0 x rfl
    have hf0 : (f + 0) % L = f := Nat.mod_eq_of_lt hf
    rw [hf0] at h0
    refine (pop_walk q r L L f n cap bytes used x.1 x.2 line ids cur w hB hb hL hf (by omega) hnl h0.1 h0.2).mono ?_
    rintro e w' ⟨rfl, h1, h2⟩
    have hrq : r ≠ q := fun h => hq (by simp [Value.ownBlock, h])
    refine ⟨rfl, _, h1, ⟨by omega, .inr ⟨r, L, cur, rfl, hb.only h2 (by simp [hrq]), hsz, Nat.mod_lt _ (by omega), by omega, hL, fun i y hy => ?_⟩⟩, h2⟩
    have := hc (i + 1) y (by simpa using hy)
    have e : ((f + 1) % L + i) % L = (f + (i + 1)) % L := by rw [Nat.mod_add_mod]; congr 1; omega
    rw [e]; exact this

theorem info38 : (Try.prog.info? 38).map (fun i => (i.zero, i.size, i.bytes)) = some (some (.agg #[.int .i64 0, .int .i64 0]), 2, 16) := by kernel_rfl

theorem take_succ (l : List Item) (k : Nat) (h : k < l.length) : l.take (k + 1) = l.take k ++ [l[k]] := by
  rw [List.take_succ_eq_append_getElem h]
theorem cells_take_succ (l : List Item) (k : Nat) (h : k < l.length) : cells (l.take (k + 1)) = cells (l.take k) ++ [.int .i64 l[k].1, .int .i64 l[k].2] := by
  rw [take_succ l k h, cells_append]; rfl

/-- What 'all' hands back: a list of its own. -/
def Fresh (w w' : World) (v : Value) (xs : List Item) : Prop := Sl w' 38 2 v xs.length (cells xs) ∧ (∀ g, v.ownBlock = some g → w.heap.size ≤ g)

theorem fresh_step {w w1 w2 : World} {o : Obj} {v v2 : Value} {held : List Item} {k : Nat} (hk : k < held.length) (hF : ∀ g, v.ownBlock = some g → w.heap.size ≤ g)
    (hown : Sl w2 38 2 v2 ((held.take k).length + 1) (cells (held.take k) ++ [.int .i64 held[k].1, .int .i64 held[k].2])) (hat : v2.ownBlock = v.ownBlock ∨ v2.ownBlock = some (w1.alloc o).heap.size) (hsz : w.heap.size ≤ w1.heap.size) : Fresh w w2 v2 (held.take (k + 1)) := by
  refine ⟨?_, fun g hg => ?_⟩
  · rw [cells_take_succ held k hk]
    have e : (held.take (k + 1)).length = (held.take k).length + 1 := by simp; omega
    rw [e]; exact hown
  · rcases hat with h | h
    · exact hF g (h ▸ hg)
    · rw [h] at hg; simp at hg; omega

set_option maxHeartbeats 800000 in
theorem all_ok {q : Nat} {cap bytes used : Int} {line ids l : Value} {f n : Nat} {held : List Item} (w : World) (hB : QB w q cap bytes used l f n line ids) (hR : RingIs w l f n held) (hn2 : n ≤ 4096) (_hq : l.ownBlock ≠ some q) :
    Calls Try.prog 38 #[.pointer (some ⟨q, 3, none⟩)] w fun e w' => ∃ v, e = .returned v ∧ Fresh w w' v held ∧ Only [] w w' := by
  obtain ⟨i0, hi, hz0, hz1, hz2⟩ := info_parts info38
  have hlen := hR.1
  obtain ⟨hc, hf, hlt⟩ := hB.facts
  have HB := Lib.hid hB
  have HR := Lib.hid hR
  clear hB hR
  go_enter Try.func38, Try.ntmps38
  go_wp2
  go_loopw [3, 9] (fun v i wr => ∃ k : Nat, k ≤ n ∧ i = .int .i64 k ∧ Fresh w wr v (held.take k) ∧ Only [] w wr) (fun _ i _ => n - (intOf i).toNat)
  case atStart => exact ⟨0, Nat.zero_le _, rfl, ⟨Sl.nil _ _ _, fun g hg => by simp [Value.ownBlock] at hg⟩, Only.refl _ _⟩
  case round =>
    obtain ⟨k, hk, rfl, hF, hO⟩ := hrel
    by_cases hlt : k < n
    · have hkl : k < held.length := by omega
      have hB1 := HB.out.only hO (by simp)
      have hR1 := HR.out.only hO (by simp)
      have HC := Lib.hid (at_ok k held[k] wr hB1 hR1 (List.getElem?_eq_getElem hkl))
      have HF := Lib.hid hF
      have HO := Lib.hid hO
      have hsz := hO.size
      clear hF hO hc hf hB1 hR1 hlen
      go_wp2_with fail
      refine HC.out.mono ?_
      rintro e w1 ⟨rfl, ho1⟩
      have HF1 := Lib.hid (HF.out.1.only ho1 (by simp))
      have hs1 := ho1.size
      have HO1 := Lib.hid (HO.out.trans ho1)
      clear ho1
      go_wp2_with (at_builtin; refine wpList_append_one rfl (.tmp 12) (.tmp 16) 31 rfl 38 i0 _ 2 16 Try.underlying31 hi hz0 hz1 hz2 rfl (by decide) rfl (HF1.out.alloc _) rfl (Blk.new _ _ _) rfl (by simp [Value.oneCell']) (by have := List.length_take_le k held; unfold maxLen; omega) (by have := List.length_take_le k held; omega) ?_; intro v2 w2 hown2 hg2 hat2)
      go_roundw
      case rel => exact ⟨k + 1, by omega, by go_num, fresh_step hkl HF.out.2 hown2 hat2 (by have := hsz; omega), (HO1.out.alloc _).grown hg2 (fun g hg => .inr (HF.out.2 g hg))⟩
      case measure => simp [intOf]; omega
    · obtain rfl : k = held.length := by omega
      have HF := Lib.hid hF
      have HO := Lib.hid hO
      clear hF hO
      go_wp2
      go_ret
      refine ⟨_, rfl, ?_, HO.out⟩
      have := HF.out
      rwa [List.take_length] at this
end Go.Proofs.Ytlkfkdcdokinpaa
