/-
  ValueParts: the plain law.
-/
import Derived.Test.YtffdfegelgpniaaZKa
import Derived.Test.YtffdfegelgpniaaMh
set_option linter.unusedSimpArgs false
set_option linter.unusedVariables false
set_option linter.unusedSimpArgs false
set_option linter.unusedVariables false
namespace Go.Proofs.Ytffdfegelgpniaa
open Go.RowKit Go.Fl

/-- A value that is no list with values in it. -/
def V.flat : V → Bool
  | .mk k _ _ _ l => decide (k ≠ 6) || decide (l.length = 0)
/-- The keys of the values that may be, one behind another. -/
def V.kb (v : V) : List Nat := match v.item with | none => [] | some x => x.key
theorem kb_none {v : V} (h : v.item = none) : v.kb = [] := by unfold V.kb; rw [h]
theorem kb_some {v : V} {x : I} (h : v.item = some x) : v.kb = x.key := by unfold V.kb; rw [h]
def pkeys : List V → List Nat
  | [] => []
  | v :: l => v.kb ++ pkeys l
/-- The sum of sizes. -/
def psize : List V → Nat
  | [] => 0
  | v :: l => v.size + psize l
/-- All may be, and none is a list with values. -/
def pmay (l : List V) : Bool := l.all fun v => v.may && v.flat
theorem bad_room {k i : Int} {r : Nat} {t : ByteArray} {n : Nat} {a b : Int} (h : bad k i r t n a = false) (hb : 0 ≤ b) : bad k i r t n b = false := by
  unfold bad at h ⊢
  simp only [Bool.or_eq_false_iff] at h ⊢
  exact ⟨⟨⟨⟨decide_eq_false (by omega), h.1.1.1.2⟩, h.1.1.2⟩, h.1.2⟩, h.2⟩
theorem I.size_pos : ∀ (x : I), 1 ≤ x.size
  | .void => Nat.le_refl _
  | .truth _ => Nat.le_refl _
  | .whole _ => Nat.le_refl _
  | .number _ => Nat.le_refl _
  | .text t => by show 1 ≤ 1 + t.size; omega
  | .list l => by show 1 ≤ 1 + sizes l; omega
theorem take_flat {v : V} {x : I} (h : v.item = some x) (hf : v.flat = true) (nest : Nat) (hn : nest ≤ 7) (room : Int) (hr : (x.size : Int) ≤ room) : v.take nest room = (some x, room - x.size) := by
  have hp := I.size_pos x
  obtain ⟨k, i, r, t, l⟩ := v
  unfold V.item V.take at h
  unfold V.take
  by_cases hb : bad k i r t l.length (65536 - 1) = true
  · rw [if_pos hb] at h; cases h
  rw [if_neg hb] at h
  rw [if_neg (by rw [bad_room (by simpa using hb) (by omega)]; decide)]
  by_cases k1 : k = 1
  · rw [if_pos k1] at h ⊢; injection h with h; subst h; rfl
  rw [if_neg k1] at h ⊢
  by_cases k2 : k = 2
  · rw [if_pos k2] at h ⊢
    split at h
    · rename_i hi; rw [if_pos hi]; injection h with h; subst h; rfl
    · cases h
  rw [if_neg k2] at h ⊢
  by_cases k3 : k = 3
  · rw [if_pos k3] at h ⊢; injection h with h; subst h; rfl
  rw [if_neg k3] at h ⊢
  by_cases k4 : k = 4
  · rw [if_pos k4] at h ⊢; injection h with h; subst h; rfl
  rw [if_neg k4] at h ⊢
  by_cases k5 : k = 5
  · rw [if_pos k5] at h ⊢
    split at h
    · injection h with h
      subst h
      have e : ((I.text t).size : Int) = 1 + t.size := by show ((1 + t.size : Nat) : Int) = _; omega
      rw [if_pos (by omega), e]
      congr 1
      omega
    · cases h
  rw [if_neg k5] at h ⊢
  by_cases k6 : k = 6
  · rw [if_pos k6] at h ⊢
    have hl : l = [] := by
      unfold V.flat at hf
      simp [k6] at hf
      exact hf
    subst hl
    rw [if_neg (by omega)] at h
    rw [if_neg (by omega)]
    injection h with h
    subst h
    rfl
  rw [if_neg k6] at h
  cases h
theorem takes_flat : ∀ (l : List V) (nest : Nat) (room : Int), nest ≤ 7 → pmay l = true → (psize l : Int) ≤ room → ∃ xs, takes l nest room = (some xs, room - psize l) ∧ keys xs = pkeys l ∧ sizes xs = psize l
  | [], nest, room, _, _, _ => ⟨[], by simp [takes, psize], rfl, rfl⟩
  | v :: l, nest, room, hn, hm, hs => by
    unfold pmay at hm
    simp only [List.all_cons, Bool.and_eq_true] at hm
    obtain ⟨⟨h1, h2⟩, h3⟩ := hm
    unfold V.may at h1
    cases hx : v.item with
    | none => rw [hx] at h1; cases h1
    | some x =>
      have hz : v.size = x.size := by unfold V.size; rw [hx]
      simp only [psize] at hs
      have ht := take_flat hx h2 nest hn room (by omega)
      obtain ⟨xs, e1, e2, e3⟩ := takes_flat l nest (room - x.size) hn h3 (by omega)
      refine ⟨x :: xs, ?_, ?_, ?_⟩
      · simp only [takes, ht, e1, psize, Option.map_some]
        congr 1
        omega
      · simp only [keys, pkeys, kb_some hx, e2]
      · simp only [sizes, psize, e3, hz]
theorem list_parts (l : List V) (hm : pmay l = true) (hs : 1 + psize l ≤ 65536) : ∃ xs, (V.mk 6 0 0 ⟨#[]⟩ l).item = some (.list xs) ∧ keys xs = pkeys l ∧ sizes xs = psize l := by
  obtain ⟨xs, e1, e2, e3⟩ := takes_flat l 1 65535 (by omega) hm (by omega)
  refine ⟨xs, ?_, e2, e3⟩
  unfold V.item V.take
  rw [if_neg (by simp [bad]; rfl), if_neg (by decide), if_neg (by decide), if_neg (by decide), if_neg (by decide), if_neg (by decide), if_pos rfl, if_neg (by decide)]
  show Option.map I.list (takes l 1 65535).1 = _
  rw [e1]
  rfl
theorem text_parts (t : ByteArray) : (V.mk 5 0 0 t []).item = if t.size ≤ 65535 then some (.text t) else none := by
  unfold V.item V.take
  rw [if_neg (by simp [bad]), if_neg (by decide), if_neg (by decide), if_neg (by decide), if_neg (by decide), if_pos rfl]
  by_cases h : t.size ≤ 65535
  · rw [if_pos h, if_pos (by omega)]
  · rw [if_neg h, if_neg (by omega)]
theorem pkeys_snoc : ∀ (l : List V) (v : V), pkeys (l ++ [v]) = pkeys l ++ v.kb
  | [], v => by simp [pkeys]
  | u :: l, v => by simp only [List.cons_append, pkeys, pkeys_snoc l v, List.append_assoc]
theorem psize_snoc : ∀ (l : List V) (v : V), psize (l ++ [v]) = psize l + v.size
  | [], v => by simp [psize]
  | u :: l, v => by simp only [List.cons_append, psize, psize_snoc l v]; omega
theorem pmay_snoc (l : List V) (v : V) : pmay (l ++ [v]) = (pmay l && (v.may && v.flat)) := by
  unfold pmay
  rw [List.all_append]
  simp
theorem may_of (v : V) : v.may = match v.item with | none => false | some _ => true := by
  unfold V.may
  cases v.item with
  | none => rfl
  | some x => rfl
theorem pkeys_len : ∀ (l : List V), (pkeys l).length ≤ 589824 * l.length
  | [] => Nat.zero_le _
  | v :: l => by
    have ih := pkeys_len l
    have h : v.kb.length ≤ 589824 := by
      cases hx : v.item with
      | none => rw [kb_none hx]; exact Nat.zero_le _
      | some x =>
        have h1 := item_size hx
        have h2 := key_len x
        rw [kb_some hx]
        omega
    simp only [pkeys, List.length_append, List.length_cons]
    omega
end Go.Proofs.Ytffdfegelgpniaa
/-
  An item's plain value, in memory of its own.
-/
set_option linter.unusedSimpArgs false
set_option linter.unusedVariables false
namespace Go.Proofs.Ytffdfegelgpniaa
open Go.RowKit Go.Fl

def I.f_plain : I → FuncId
  | .void => 92 | .truth _ => 97 | .whole _ => 104 | .number _ => 112 | .text _ => 122 | .list _ => 130
theorem m_plain {w : World} {F : Nat → Prop} {x : I} {u : Value} (h : IIs w F x u) (w' : World) : (method 235 x.typ u "flume/value.plain").run Try.prog w' = .ok (x.f_plain, u) w' := by
  cases h with
  | void => kernel_rfl
  | truth => kernel_rfl
  | whole => kernel_rfl
  | number => kernel_rfl
  | text => kernel_rfl
  | list => kernel_rfl
theorem c_plain (x : I) (args : Array Value) (w : World) : (callFunc x.f_plain args).run Try.prog w = .ok (.enter x.f_plain args) w := by
  cases x <;> kernel_rfl
def PlainPost (w : World) (x : I) (e : Ending) (w' : World) : Prop := ∃ cs S, e = .returned (.agg cs.toArray) ∧ VO w' x.toV cs S ∧ S.Nodup ∧ (∀ g ∈ S, w.heap.size ≤ g) ∧ Only [] w w'
def PlainOk (x : I) : Prop := ∀ (w : World) (F : Nat → Prop) (u : Value), IIs w F x u → x.size ≤ 65536 → Calls Try.prog x.f_plain #[u] w (PlainPost w x)
theorem sizes_len : ∀ (l : List I), l.length ≤ sizes l
  | [] => Nat.zero_le _
  | x :: l => by
    have h1 := I.size_pos x
    have h2 := sizes_len l
    simp only [sizes, List.length_cons]
    omega
theorem canR_lt {b : Nat} (h : b < 18446744073709551616) : canR b < 18446744073709551616 := by
  unfold canR
  split <;> omega
set_option maxRecDepth 100000 in
theorem plain_void : PlainOk .void := by
  intro w F u hu hs
  cases hu
  show Calls Try.prog 92 _ w (PlainPost w .void)
  go_enter Try.func92, Try.ntmps92
  go_wp2_with (refine wpList_store_blk rfl 33 (.tmp 2) (.tmp 3) rfl [iv 1, iv 0, fv 0, .string ⟨#[]⟩, .slice none 0 0] rfl rfl (by have h := Blk.new (w.alloc (.cells #[] 103)) 33 zeroV.toArray; rw [show (w.alloc (.cells #[] 103)).heap.size = w.heap.size + 1 by simp] at h; exact h) (by kernel_rfl) (by simp) (by simp [Value.oneCell']) ?_)
  intro w1 hB hO
  have HB := Lib.hid hB
  have HO := Lib.hid (show Only [] w w1 from (((Only.refl [] w).alloc _).alloc _).trans' hO (fun i hi => .inr (by simp at hi; omega)))
  clear hB hO
  go_wp2
  exact bodyPost_ret (results1 rfl (res_blk (cs := [iv 1, iv 0, fv 0, .string ⟨#[]⟩, .slice none 0 0]) Try.underlying33 (by kernel_rfl) rfl HB.out)) rfl ⟨_, [], rfl, VO.plain (by decide) (by decide) (by omega) (Nat.zero_le _), List.nodup_nil, (fun g hg => by cases hg), HO.out⟩
set_option maxRecDepth 100000 in
theorem plain_truth (t : Int) : PlainOk (.truth t) := by
  intro w F u hu hs
  cases hu with
  | truth _ ht =>
  show Calls Try.prog 97 _ w (PlainPost w (.truth t))
  go_enter Try.func97, Try.ntmps97
  go_wp2_with (refine wpList_store_blk rfl 33 (.tmp 2) (.tmp 4) rfl [iv 2, iv t, fv 0, .string ⟨#[]⟩, .slice none 0 0] rfl rfl (by have h := Blk.new w 33 zeroV.toArray; exact h) (by kernel_rfl) (by simp) (by simp [Value.oneCell']) ?_)
  intro w1 hB hO
  have HB := Lib.hid hB
  have HO := Lib.hid (show Only [] w w1 from ((Only.refl [] w).alloc _).trans' hO (fun i hi => .inr (by simp at hi; omega)))
  clear hB hO
  go_wp2
  exact bodyPost_ret (results1 rfl (res_blk (cs := [iv 2, iv t, fv 0, .string ⟨#[]⟩, .slice none 0 0]) Try.underlying33 (by kernel_rfl) rfl HB.out)) rfl ⟨_, [], rfl, VO.plain (by decide) ht (by omega) (Nat.zero_le _), List.nodup_nil, (fun g hg => by cases hg), HO.out⟩
set_option maxRecDepth 100000 in
theorem plain_whole (t : Int) : PlainOk (.whole t) := by
  intro w F u hu hs
  cases hu with
  | whole _ ht =>
  show Calls Try.prog 104 _ w (PlainPost w (.whole t))
  go_enter Try.func104, Try.ntmps104
  go_wp2_with (refine wpList_store_blk rfl 33 (.tmp 2) (.tmp 4) rfl [iv 3, iv t, fv 0, .string ⟨#[]⟩, .slice none 0 0] rfl rfl (by have h := Blk.new w 33 zeroV.toArray; exact h) (by kernel_rfl) (by simp) (by simp [Value.oneCell']) ?_)
  intro w1 hB hO
  have HB := Lib.hid hB
  have HO := Lib.hid (show Only [] w w1 from ((Only.refl [] w).alloc _).trans' hO (fun i hi => .inr (by simp at hi; omega)))
  clear hB hO
  go_wp2
  exact bodyPost_ret (results1 rfl (res_blk (cs := [iv 3, iv t, fv 0, .string ⟨#[]⟩, .slice none 0 0]) Try.underlying33 (by kernel_rfl) rfl HB.out)) rfl ⟨_, [], rfl, VO.plain (by decide) ht (by omega) (Nat.zero_le _), List.nodup_nil, (fun g hg => by cases hg), HO.out⟩
set_option maxRecDepth 100000 in
theorem plain_number (b : Nat) : PlainOk (.number b) := by
  intro w F u hu hs
  cases hu with
  | number _ hb =>
  show Calls Try.prog 112 _ w (PlainPost w (.number b))
  go_enter Try.func112, Try.ntmps112
  go_wp2_with fail
  refine (realCanon _ b).mono ?_
  rintro e w0 ⟨rfl, rfl⟩
  go_wp2_with (refine wpList_store_blk rfl 33 (.tmp 2) (.tmp 5) rfl [iv 4, iv 0, fv (canR b), .string ⟨#[]⟩, .slice none 0 0] rfl rfl (by have h := Blk.new w 33 zeroV.toArray; exact h) (by kernel_rfl) (by simp) (by simp [Value.oneCell']) ?_)
  intro w1 hB hO
  have HB := Lib.hid hB
  have HO := Lib.hid (show Only [] w w1 from ((Only.refl [] w).alloc _).trans' hO (fun i hi => .inr (by simp at hi; omega)))
  clear hB hO
  go_wp2
  exact bodyPost_ret (results1 rfl (res_blk (cs := [iv 4, iv 0, fv (canR b), .string ⟨#[]⟩, .slice none 0 0]) Try.underlying33 (by kernel_rfl) rfl HB.out)) rfl ⟨_, [], rfl, VO.plain (by decide) (by decide) (canR_lt hb) (Nat.zero_le _), List.nodup_nil, (fun g hg => by cases hg), HO.out⟩
set_option maxRecDepth 100000 in
theorem plain_text (t : ByteArray) : PlainOk (.text t) := by
  intro w F u hu hs
  cases hu with
  | text _ ht =>
  show Calls Try.prog 122 _ w (PlainPost w (.text t))
  go_enter Try.func122, Try.ntmps122
  go_wp2_with (refine wpList_store_blk rfl 33 (.tmp 2) (.tmp 4) rfl [iv 5, iv 0, fv 0, .string t, .slice none 0 0] rfl rfl (by have h := Blk.new w 33 zeroV.toArray; exact h) (by kernel_rfl) (by simp) (by simp [Value.oneCell']) ?_)
  intro w1 hB hO
  have HB := Lib.hid hB
  have HO := Lib.hid (show Only [] w w1 from ((Only.refl [] w).alloc _).trans' hO (fun i hi => .inr (by simp at hi; omega)))
  clear hB hO
  go_wp2
  exact bodyPost_ret (results1 rfl (res_blk (cs := [iv 5, iv 0, fv 0, .string t, .slice none 0 0]) Try.underlying33 (by kernel_rfl) rfl HB.out)) rfl ⟨_, [], rfl, VO.plain (by decide) (by decide) (by omega) ht, List.nodup_nil, (fun g hg => by cases hg), HO.out⟩
end Go.Proofs.Ytffdfegelgpniaa
/-
  A list's plain value, and Copy.
-/
set_option linter.unusedSimpArgs false
set_option linter.unusedVariables false
namespace Go.Proofs.Ytffdfegelgpniaa
open Go.RowKit Go.Fl

/-- A list that is being copied: its value's cells and what lies in them; the slice aside. -/
structure LP (w wr : World) (acc : List V) (css : List (List Value)) (Ss : List (List Nat)) (sv : Value) : Prop where
  blk4 : Blk wr w.heap.size 33 zeroV.toArray
  blk5 : Blk wr (w.heap.size + 1) 33 #[iv 6, iv 0, fv 0, .string ⟨#[]⟩, sv]
  cl : css.length = acc.length
  sl' : Ss.length = acc.length
  els : ∀ j (h : j < acc.length), VO wr acc[j] (css.getD j []) (Ss.getD j [])
  nodup : (sv.ownBlock.toList ++ Ss.flatten).Nodup
  ge : ∀ g ∈ sv.ownBlock.toList ++ Ss.flatten, w.heap.size + 2 ≤ g
  only : Only [] w wr
theorem LP.keep {w wr w2 : World} {acc : List V} {css : List (List Value)} {Ss : List (List Nat)} {sv : Value} (h : LP w wr acc css Ss sv) (h4 : w2.heap[w.heap.size]? = wr.heap[w.heap.size]?) (h5 : w2.heap[w.heap.size + 1]? = wr.heap[w.heap.size + 1]?) (hS : ∀ g ∈ Ss.flatten, w2.heap[g]? = wr.heap[g]?) (ho : Only [] w w2) : LP w w2 acc css Ss sv :=
  ⟨h4.trans h.blk4, h5.trans h.blk5, h.cl, h.sl', fun j hj => (h.els j hj).keep fun g hg => hS g (flatten_mem (by rw [h.sl']; exact hj) hg), h.nodup, h.ge, ho⟩
theorem LP.lt {w wr : World} {acc : List V} {css : List (List Value)} {Ss : List (List Nat)} {sv : Value} (h : LP w wr acc css Ss sv) : ∀ g ∈ Ss.flatten, g < wr.heap.size := fun g hg => by
  obtain ⟨S, hS, hg⟩ := List.mem_flatten.1 hg
  obtain ⟨j, hj, rfl⟩ := List.getElem_of_mem hS
  have := (h.els j (by rw [← h.sl']; exact hj)).lt g
  rw [List.getD_eq_getElem?_getD, List.getElem?_eq_getElem hj] at this
  exact this hg
theorem LP.only0 {w wr w2 : World} {acc : List V} {css : List (List Value)} {Ss : List (List Nat)} {sv : Value} (h : LP w wr acc css Ss sv) (ho : Only [] wr w2) : LP w w2 acc css Ss sv :=
  h.keep (ho.block _ h.blk4.lt (by simp)) (ho.block _ h.blk5.lt (by simp)) (fun g hg => ho.block g (h.lt g hg) (by simp)) (h.only.trans ho)
/-- One more value has been copied. -/
structure XW (w w2 wr : World) (acc : List V) (css : List (List Value)) (Ss : List (List Nat)) (sv : Value) (x : V) (cs : List Value) (S : List Nat) : Prop where
  vo : VO wr x cs S
  nd : S.Nodup
  ge : ∀ g ∈ S, w2.heap.size ≤ g
  lm : LP w wr acc css Ss sv
  size : w2.heap.size ≤ wr.heap.size
section
variable (w w2 : World) (acc : List V) (css : List (List Value)) (Ss : List (List Nat)) (sv u : Value) (ty : TypeId) (x : V)
def WPhi : Nat → Value → World → Prop
  | 0, v, _ => v = .pointer (some ⟨w.heap.size + 1, 4, none⟩)
  | 1, v, _ => v = sv
  | 2, v, _ => v = .iface ty u
  | 3, v, w' => ∃ cs S, v = .agg cs.toArray ∧ XW w w2 w' acc css Ss sv x cs S ∧ Sl w' 33 5 sv acc.length css.flatten
  | 4, v, w' => ∃ cs S g, v = .slice (some ⟨g, 0, none⟩) 1 1 ∧ Blk w' g 33 cs.toArray ∧ XW w w2 w' acc css Ss sv x cs S ∧ Sl w' 33 5 sv acc.length css.flatten ∧ w2.heap.size ≤ g ∧ g ∉ S
  | 5, v, w' => ∃ cs S, Sl w' 33 5 v (acc.length + 1) (css.flatten ++ cs) ∧ (∀ g, v.ownBlock = some g → sv.ownBlock = some g ∨ (w2.heap.size ≤ g ∧ g ∉ S)) ∧ XW w w2 w' acc css Ss sv x cs S
  | 6, v, _ => v = .pointer (some ⟨w.heap.size + 1, 4, none⟩)
  | 7, _, w' => ∃ cs S sv', Sl w' 33 5 sv' (acc ++ [x]).length (css ++ [cs]).flatten ∧ LP w w' (acc ++ [x]) (css ++ [cs]) (Ss ++ [S]) sv'
  | _, _, _ => True
def WInv : Nat → World → Prop
  | 1, w' => Blk w' (w.heap.size + 1) 33 #[iv 6, iv 0, fv 0, .string ⟨#[]⟩, sv]
  | 3, w' => w' = w2.drew
  | _, _ => True
def WRel : Nat → World → World → Prop
  | 3, a, b => Only [] a b
  | 4, a, b => Only [] a b
  | 5, a, b => Only sv.ownBlock.toList a b
  | 7, a, b => Only [w.heap.size + 1] a b
  | _, a, b => a = b
end
abbrev WD : List (List Nat) := [[], [0], [], [2], [3], [1, 4], [], [6, 5]]
abbrev WA : List (List Nat) := [[], [0], [], [2], [3, 2], [1, 4, 0, 3, 2], [], [6, 5, 1, 4, 0, 3, 2]]
theorem XW.only0 {w w2 wr w4 : World} {acc : List V} {css : List (List Value)} {Ss : List (List Nat)} {sv : Value} {x : V} {cs : List Value} {S : List Nat} (h : XW w w2 wr acc css Ss sv x cs S) (ho : Only [] wr w4) : XW w w2 w4 acc css Ss sv x cs S :=
  ⟨h.vo.only ho fun _ _ => by simp, h.nd, h.ge, h.lm.only0 ho, Nat.le_trans h.size ho.size⟩
theorem W_st {w w2 : World} {acc : List V} {css : List (List Value)} {Ss : List (List Nat)} {sv u : Value} {ty : TypeId} {x : V} (i p : Nat) (v : Value) (a b : World) (hB : Lex.needB 8 WA WD [7] i p = true)
    (h : WPhi w w2 acc css Ss sv u ty x p v a) (hR : WRel w sv i a b) : WPhi w w2 acc css Ss sv u ty x p v b := by
  have hi : i < 8 := by
    unfold Lex.needB at hB
    simp only [Bool.and_eq_true, decide_eq_true_eq] at hB
    exact hB.1.1.1.1
  have hp : p < 8 := by
    unfold Lex.needB at hB
    simp only [Bool.and_eq_true, decide_eq_true_eq] at hB
    exact hB.1.1.1.2
  by_cases hpp : p = 3 ∨ p = 4 ∨ p = 5 ∨ p = 7
  · by_cases hii : i = 3 ∨ i = 4 ∨ i = 5 ∨ i = 7
    · exfalso
      rcases hpp with rfl | rfl | rfl | rfl <;> rcases hii with rfl | rfl | rfl | rfl <;> revert hB <;> decide
    · have e : a = b := by
        match i, hR, hii with
        | 0, h, _ => exact h
        | 1, h, _ => exact h
        | 2, h, _ => exact h
        | 6, h, _ => exact h
        | 3, _, h => simp at h
        | 4, _, h => simp at h
        | 5, _, h => simp at h
        | 7, _, h => simp at h
        | n + 8, _, _ => omega
      exact e ▸ h
  · match p, h, hpp with
    | 0, h, _ => exact h
    | 1, h, _ => exact h
    | 2, h, _ => exact h
    | 6, h, _ => exact h
    | 3, _, h => simp at h
    | 4, _, h => simp at h
    | 5, _, h => simp at h
    | 7, _, h => simp at h
    | n + 8, _, _ => omega
theorem WI_st {w w2 : World} {sv : Value} (i q : Nat) (a b : World) (hB : Lex.keepB 8 WA i q = true) (h : WInv w w2 sv q a) (hR : WRel w sv i a b) : WInv w w2 sv q b := by
  have hi : i < 8 := by
    unfold Lex.keepB at hB
    simp only [Bool.and_eq_true, decide_eq_true_eq] at hB
    exact hB.1.1.1
  by_cases hq1 : q = 1
  · subst hq1
    by_cases hii : i = 5 ∨ i = 7
    · exfalso
      rcases hii with rfl | rfl <;> revert hB <;> decide
    · match i, hR, hii with
      | 0, e, _ => exact (show a = b from e) ▸ h
      | 1, e, _ => exact (show a = b from e) ▸ h
      | 2, e, _ => exact (show a = b from e) ▸ h
      | 6, e, _ => exact (show a = b from e) ▸ h
      | 3, e, _ => exact Blk.only (S := []) h e (by simp)
      | 4, e, _ => exact Blk.only (S := []) h e (by simp)
      | 5, _, h => simp at h
      | 7, _, h => simp at h
      | n + 8, _, _ => omega
  · by_cases hq3 : q = 3
    · subst hq3
      by_cases hii : i = 4 ∨ i = 5 ∨ i = 7 ∨ i = 3
      · exfalso
        rcases hii with rfl | rfl | rfl | rfl <;> revert hB <;> decide
      · match i, hR, hii with
        | 0, e, _ => exact (show a = b from e) ▸ h
        | 1, e, _ => exact (show a = b from e) ▸ h
        | 2, e, _ => exact (show a = b from e) ▸ h
        | 6, e, _ => exact (show a = b from e) ▸ h
        | 3, _, h => simp at h
        | 4, _, h => simp at h
        | 5, _, h => simp at h
        | 7, _, h => simp at h
        | n + 8, _, _ => omega
    · unfold WInv
      split
      · exact absurd rfl hq1
      · exact absurd rfl hq3
      · trivial
theorem toVs_len : ∀ (l : List I), (toVs l).length = l.length
  | [] => rfl
  | x :: l => by simp only [toVs, List.length_cons, toVs_len l]
theorem toVs_snoc : ∀ (l : List I) (x : I), toVs (l ++ [x]) = toVs l ++ [x.toV]
  | [], x => rfl
  | y :: l, x => by simp only [List.cons_append, toVs, toVs_snoc l x]
set_option maxRecDepth 100000 in
set_option maxHeartbeats 3200000 in
theorem plain_list (l : List I) (H : ∀ j (h : j < l.length), PlainOk l[j]) : PlainOk (.list l) := by
  intro w F u hu hs
  obtain ⟨j33, si, sz0, sz1, sz2⟩ := info_parts info33
  have hs : 1 + sizes l ≤ 65536 := hs
  have hsl := sizes_len l
  cases hu with
  | @list _ a cap us hc hm hcell hi =>
  have HC := Lib.hid hcell
  have HI := Lib.hid hi
  have HH := Lib.hid H
  have hll : l.length ≤ 65535 := by omega
  have HSZ := Lib.hid (show ∀ j (h : j < l.length), l[j].size ≤ 65536 from fun j h => by
    have h1 : sizes l = sizes (l.take j) + sizes (l.drop j) := by rw [← sizes_append, List.take_append_drop]
    have h2 : sizes (l.drop j) = l[j].size + sizes (l.drop (j + 1)) := by rw [List.drop_eq_getElem_cons h]; rfl
    omega)
  clear hcell hi H hs hsl
  show Calls Try.prog 130 _ w (PlainPost w (.list l))
  go_enter Try.func130, Try.ntmps130
  go_wp2_with (refine wpList_store_blk rfl 33 (.tmp 3) (.tmp 6) rfl [iv 6, iv 0, fv 0, .string ⟨#[]⟩, .slice none 0 0] rfl rfl (by have := Blk.new (w.alloc (.cells zeroV.toArray 33)) 33 zeroV.toArray; rw [show (w.alloc (.cells zeroV.toArray 33)).heap.size = w.heap.size + 1 by simp] at this; exact this) (by kernel_rfl) (by simp) (by simp [Value.oneCell']) ?_)
  intro w1 hB1 hO1
  have HO1 := Lib.hid (show Only [] w w1 from (((Only.refl [] w).alloc _).alloc _).trans' hO1 (fun i hi => .inr (by simp at hi; omega)))
  have HL0 := Lib.hid (show LP w w1 [] [] [] (.slice none 0 0) from
    ⟨(hO1.block _ (by simp; omega) (by simp)).trans ((Blk.new w 33 zeroV.toArray).alloc _), hB1, rfl, rfl, fun j h => absurd h (Nat.not_lt_zero _), List.nodup_nil, (fun g hg => by cases hg), HO1.out⟩)
  clear hB1 hO1
  go_wp2
  go_loopw [9] (fun z wr => ∃ (k : Nat) (css : List (List Value)) (Ss : List (List Nat)) (sv : Value), k ≤ l.length ∧ z = .int .i64 k ∧ Hid (Sl wr 33 5 sv k css.flatten) ∧ Hid (LP w wr (toVs (l.take k)) css Ss sv)) (fun z _ => l.length - (intOf z).toNat)
  case atStart => exact ⟨0, [], [], _, Nat.zero_le _, rfl, Lib.hid (Sl.nil _ _ _), HL0⟩
  case round =>
    obtain ⟨k, css, Ss, sv, hk, rfl, HS, HM⟩ := hrel
    by_cases hkt : k < l.length
    · have hkz : (k : Int) < (l.length : Int) := by omega
      obtain ⟨g, off, rfl, hg, hFg, hcc⟩ := HC.out (by omega)
      have x0 : wr.cell? ⟨g, off + k, none⟩ = _ := (HM.out.only.cell (p := ⟨g, off + k, none⟩) hg (by simp)).trans (hcc k hkt)
      have hxk := (HI.out k hkt).only0 (w' := wr.drew) HM.out.only.drew
      have HT := Lib.hid (HH.out k hkt wr.drew _ (us k) hxk (HSZ.out k hkt))
      have hm1 := m_plain hxk
      have hm2 := c_plain l[k]
      have hacl := toVs_len (l.take k)
      have hacl2 : (toVs (l.take k)).length = k := by rw [hacl, List.length_take]; omega
      have HE := Lib.hid (show toVs (l.take (k + 1)) = toVs (l.take k) ++ [l[k].toV] by rw [List.take_succ_eq_append_getElem hkt, toVs_snoc])
      clear hcc hFg hxk hacl
      generalize toVs (l.take k) = acc at *
      generalize hlk : l[k] = xk at *
      generalize us k = uk at *
      clear hlk
      obtain rfl := hacl2
      go_wp2
      refine Lex.wp_region_eachA (by kernel_rfl) WD (by kernel_rfl) (by rfl) WA (by kernel_rfl) [7] (WInv w wr sv) ?_ (WRel w sv) (WPhi w wr acc css Ss sv uk xk.typ xk.toV) (fun _ _ => False) (fun i p v a b h k => W_st i p v a b h k) (fun i q a b h k => WI_st i q a b h k) ?_ (fun _ _ _ _ h => h.elim) ?_
      · intro i hi
        unfold WInv
        split
        · exact HM.out.blk5
        · rfl
        · trivial
      · intro i o ho w3 hI
        rcases i with _ | _ | _ | _ | _ | _ | _ | _ | i
        ·
          injection ho with ho
          subst ho
          show wpList _ _ _ _ _ _
          go_wp2
          exact ⟨rfl, rfl, rfl⟩
        · injection ho with ho
          subst ho
          have x4 := (show Blk w3 (w.heap.size + 1) 33 #[iv 6, iv 0, fv 0, .string ⟨#[]⟩, sv] from hI).cell 4
          simp at x4
          intro v hv
          obtain rfl : v = .pointer (some ⟨w.heap.size + 1, 4, none⟩) := hv
          simp only [Lex.dstOf, List.getElem?_cons_zero, List.getElem?_cons_succ, Option.bind_some]
          clear hI
          show wpList _ _ _ _ _ _
          go_wp2
          exact ⟨rfl, rfl, rfl⟩
        ·
          injection ho with ho
          subst ho
          show wpList _ _ _ _ _ _
          go_wp2
          exact ⟨rfl, rfl, rfl⟩
        · injection ho with ho
          subst ho
          obtain rfl : w3 = wr.drew := hI
          intro v2 h2
          obtain rfl : v2 = .iface xk.typ uk := h2
          simp only [Lex.dstOf, List.getElem?_cons_zero, List.getElem?_cons_succ, Option.bind_some]
          show wpList _ _ _ _ _ _
          go_wp2_with fail
          refine HT.out.mono ?_
          rintro e w4 ⟨cs, S, rfl, hvo, hnd, hge, ho⟩
          have HX := Lib.hid (show XW w wr w4 acc css Ss sv xk.toV cs S from ⟨hvo, hnd, hge, HM.out.only0 ((Only.refl _ _).drew.trans ho), ho.size⟩)
          have HS4 := Lib.hid (show Sl w4 33 5 sv acc.length css.flatten from HS.out.drew.only ho (fun g hg => by simp))
          have HO4 := Lib.hid ho
          clear hvo hnd hge ho
          go_wp2
          exact ⟨⟨cs, S, rfl, HX.out, HS4.out⟩, HO4.out, rfl⟩
        · injection ho with ho
          subst ho
          intro v hv
          obtain ⟨cs, S, rfl, hx, hs⟩ := hv
          obtain ⟨k0, i0, r0, t0, sa0, sn0, sc0, hcs⟩ := hx.vo.form
          have HX := Lib.hid hx
          have HSS := Lib.hid hs
          have hwl := hx.lm.blk4.lt
          clear hx hs hI
          subst hcs
          simp only [Lex.dstOf, List.getElem?_cons_zero, List.getElem?_cons_succ, Option.bind_some]
          show wpList _ _ _ _ _ _
          go_wp2
          exact ⟨⟨_, S, w3.heap.size, rfl, Blk.new _ _ _, HX.out.only0 ((Only.refl _ _).alloc _), HSS.out.alloc _, HX.out.size, fun hm => by have := HX.out.vo.lt _ hm; omega⟩, (Only.refl _ _).alloc _, rfl⟩
        · injection ho with ho
          subst ho
          intro v1 hv1 v6 hv6
          obtain rfl : v1 = sv := hv1
          obtain ⟨cs, S, g, rfl, hb, hx, hs, hg, hgS⟩ := hv6
          have hlen := hx.vo.len
          obtain ⟨k0, i0, r0, t0, sa0, sn0, sc0, hcs⟩ := hx.vo.form
          have hone : ∀ u ∈ cs, u.oneCell' = true := by rw [hcs]; simp [Value.oneCell']
          have HX := Lib.hid hx
          clear hx hcs hI
          simp only [Lex.dstOf, List.getElem?_cons_zero, List.getElem?_cons_succ, Option.bind_some]
          show wpList _ _ _ _ _ _
          go_wp2_with (at_builtin; refine wpList_append_one (news := cs) rfl (.tmp 14) (.tmp 17) 31 rfl 33 j33 _ 5 64 Try.underlying31 si sz0 sz1 sz2 rfl (by decide) rfl hs rfl hb hlen hone (by unfold maxLen; omega) (by omega) ?_)
          intro v7 w4 hS4 hg4 hat4
          have hol : ∀ g, v1.ownBlock = some g → g < wr.heap.size := fun g hg => HS.out.lt g hg
          have hX4 : XW w wr w4 acc css Ss v1 xk.toV cs S := by
            have hd := HX.out.lm.nodup
            refine ⟨HX.out.vo.grown hg4 fun g hg e => ?_, HX.out.nd, HX.out.ge, HX.out.lm.keep (hg4.block _ HX.out.lm.blk4.lt ?_) (hg4.block _ HX.out.lm.blk5.lt ?_) (fun g hg => hg4.block g (HX.out.lm.lt g hg) fun e => ?_) (HX.out.lm.only.grown hg4 fun g hg => .inr ?_), Nat.le_trans HX.out.size hg4.size⟩
            · have := hol g e; have := HX.out.ge g hg; omega
            · intro e; have := HX.out.lm.ge w.heap.size (List.mem_append_left _ (by simp [← e])); omega
            · intro e; have := HX.out.lm.ge (w.heap.size + 1) (List.mem_append_left _ (by simp [← e])); omega
            · exact (List.nodup_append.1 hd).2.2 g (by simp [← e]) g hg rfl
            · have := HX.out.lm.ge g (List.mem_append_left _ (by simp [hg])); omega
          have HX4 := Lib.hid hX4
          have HS4 := Lib.hid hS4
          have HOW := Lib.hid (show ∀ g, v7.ownBlock = some g → v1.ownBlock = some g ∨ (wr.heap.size ≤ g ∧ g ∉ S) from fun g hg => by
            rcases hat4 with e | e
            · exact .inl (e ▸ hg)
            · rw [e] at hg
              injection hg with hg
              subst hg
              exact .inr ⟨HX.out.size, fun hm => by have := HX.out.vo.lt _ hm; omega⟩)
          have HRL := Lib.hid (show Only v1.ownBlock.toList w3 w4 from (Only.refl _ _).grown hg4 fun k hk => .inl (by simp [hk]))
          clear hX4 hS4 hg4 hat4 hs hb hone
          go_wp2
          exact ⟨⟨cs, S, HS4.out, HOW.out, HX4.out⟩, HRL.out, rfl⟩
        ·
          injection ho with ho
          subst ho
          show wpList _ _ _ _ _ _
          go_wp2
          exact ⟨rfl, rfl, rfl⟩
        · injection ho with ho
          subst ho
          intro v8 hv8 v7 hv7
          obtain rfl : v8 = .pointer (some ⟨w.heap.size + 1, 4, none⟩) := hv8
          obtain ⟨cs, S, hS7, hown, hx⟩ := hv7
          obtain ⟨a7, c7, rfl⟩ := sl_form hS7
          have x4 := hx.lm.blk5.cell 4
          have f4 := hx.lm.blk5.frozen 4
          have l5 := hx.lm.blk5.lt
          simp at x4
          have HX := Lib.hid hx
          have HS7 := Lib.hid hS7
          have HOW := Lib.hid hown
          clear hx hS7 hown hI
          simp only [Lex.dstOf, List.getElem?_cons_zero, List.getElem?_cons_succ, Option.bind_some]
          show wpList _ _ _ _ _ _
          have hb5' := HX.out.lm.blk5.set_ 4 (.slice a7 (acc.length + 1) c7)
          have HB5 := Lib.hid (show Blk (w3.setCell ⟨w.heap.size + 1, 4, none⟩ (.slice a7 (acc.length + 1) c7)) (w.heap.size + 1) 33 #[iv 6, iv 0, fv 0, .string ⟨#[]⟩, .slice a7 (acc.length + 1) c7] from hb5')
          have HO5 := Lib.hid (show Only [w.heap.size + 1] w3 (w3.setCell ⟨w.heap.size + 1, 4, none⟩ (.slice a7 (acc.length + 1) c7)) from (Only.refl _ _).setCell (.inl (by simp)) _)
          clear hb5'
          go_wp2
          have hol : ∀ g, sv.ownBlock = some g → g < wr.heap.size := fun g hg => HS.out.lt g hg
          have hsl : ∀ g ∈ Ss.flatten, g < wr.heap.size := HM.out.lt
          have hd := HX.out.lm.nodup
          have hge7 : ∀ g, (Value.slice a7 (acc.length + 1) c7).ownBlock = some g → w.heap.size + 2 ≤ g := fun g hg => by
            rcases HOW.out g hg with e | ⟨e, _⟩
            · exact HX.out.lm.ge g (List.mem_append_left _ (by simp [e]))
            · have := HM.out.blk5.lt; omega
          refine ⟨⟨cs, S, .slice a7 (acc.length + 1) c7, ?_, ⟨(HO5.out.block _ HX.out.lm.blk4.lt (by simp)).trans HX.out.lm.blk4, HB5.out, by simp [HX.out.lm.cl], by simp [HX.out.lm.sl'], fun j hj => ?_, ?_, fun g hg => ?_, HX.out.lm.only.trans' HO5.out fun i hi => .inr (by simp at hi; omega)⟩⟩, HO5.out, rfl⟩
          · have := HS7.out.only HO5.out fun g hg hm => by have := hge7 g hg; simp at hm; omega
            simpa using this
          · have hcl := HX.out.lm.cl
            have hsl2 := HX.out.lm.sl'
            by_cases hja : j < acc.length
            · rw [List.getElem_append_left hja, List.getD_eq_getElem?_getD, List.getD_eq_getElem?_getD, List.getElem?_append_left (by omega), List.getElem?_append_left (by omega), ← List.getD_eq_getElem?_getD, ← List.getD_eq_getElem?_getD]
              exact (HX.out.lm.els j hja).only HO5.out fun g hg hm => by
                have := HX.out.lm.ge g (List.mem_append_right _ (flatten_mem (by omega) hg)); simp at hm; omega
            · have hje : j = acc.length := by simp at hj; omega
              subst hje
              rw [List.getElem_append_right (by omega), List.getD_eq_getElem?_getD, List.getD_eq_getElem?_getD, List.getElem?_append_right (by omega), List.getElem?_append_right (by omega)]
              simp only [hcl, hsl2, Nat.sub_self, List.getElem?_cons_zero, Option.getD_some, List.getElem_cons_zero]
              exact HX.out.vo.only HO5.out fun g hg hm => by
                have := HX.out.ge g hg; have := HM.out.blk5.lt; simp at hm; omega
          · rw [List.flatten_append, List.flatten_cons, List.flatten_nil, List.append_nil]
            obtain ⟨d1, d2, d3⟩ := List.nodup_append.1 hd
            refine List.nodup_append.2 ⟨?_, List.nodup_append.2 ⟨d2, HX.out.nd, fun a ha b hb e => ?_⟩, fun a ha b hb e => ?_⟩
            · cases (Value.slice a7 (acc.length + 1) c7).ownBlock with
              | none => exact List.nodup_nil
              | some g => simp
            · have := hsl a ha; have := HX.out.ge b hb; omega
            · subst e
              have ha' : (Value.slice a7 (acc.length + 1) c7).ownBlock = some a := by simpa using ha
              rcases HOW.out a ha' with e | ⟨e, e2⟩
              · rcases List.mem_append.1 hb with hb | hb
                · exact d3 a (by simp [e]) a hb rfl
                · have := hol a e; have := HX.out.ge a hb; omega
              · rcases List.mem_append.1 hb with hb | hb
                · have := hsl a hb; omega
                · exact e2 hb
          · rcases List.mem_append.1 hg with hg | hg
            · exact hge7 g (by simpa using hg)
            · rw [List.flatten_append, List.flatten_cons, List.flatten_nil, List.append_nil] at hg
              rcases List.mem_append.1 hg with hg | hg
              · exact HX.out.lm.ge g (List.mem_append_right _ hg)
              · have := HX.out.ge g hg; have := HM.out.blk5.lt; omega
        · cases ho
      · intro w4
        show ∀ v0, _ → ∀ v1, _ → ∀ v2, _ → ∀ v3, _ → ∀ v4, _ → ∀ v5, _ → ∀ v6, _ → ∀ v7, _ → Exit.inBlock _ _ _ _ _
        intro v0 _ v1 _ v2 _ v3 _ v4 _ v5 _ v6 _ v7 h7
        obtain ⟨cs, S, sv', hS9, hM9⟩ := h7 (by rfl)
        rw [← HE.out] at hM9
        have HS9 := Lib.hid (show Sl w4 33 5 sv' (acc.length + 1) (css ++ [cs]).flatten by simpa using hS9)
        have HM9 := Lib.hid hM9
        clear hS9 hM9
        simp only [Lex.dstOf, List.getElem?_cons_zero, List.getElem?_cons_succ, Option.bind_some]
        go_wp2
        go_roundw
        case measure => simp [intOf]; omega
        case rel => exact ⟨acc.length + 1, _, _, _, by omega, by go_num, HS9, HM9⟩
    · obtain rfl : k = l.length := by omega
      rw [List.take_length] at HM
      have hacl := toVs_len l
      obtain ⟨a, cap, rfl, hcap, hmax⟩ : ∃ a cap, sv = .slice a l.length cap ∧ l.length ≤ cap ∧ cap ≤ maxLen := by
        rcases HS.out.2 with ⟨e, e2⟩ | ⟨g, off, cap', cur, e, hh, h1, h2, _, _⟩
        · exact ⟨_, _, e.trans (by rw [e2]), by omega, by decide⟩
        · exact ⟨_, _, e, h1, h2⟩
      have hb5 := HM.out.blk5
      have y0 := hb5.cell 0
      have y1 := hb5.cell 1
      have y2 := hb5.cell 2
      have y3 := hb5.cell 3
      have y4 := hb5.cell 4
      simp at y0 y1 y2 y3 y4
      have hb4 := HM.out.blk4
      clear hb5
      go_wp2_with (refine wpList_store_blk rfl 33 (.tmp 2) (.tmp 21) rfl [iv 6, iv 0, fv 0, .string ⟨#[]⟩, .slice a l.length cap] rfl rfl hb4 (by kernel_rfl) (by simp) (by simp [Value.oneCell']) ?_)
      intro w3 hB3 hO3
      have HB3 := Lib.hid hB3
      have HO3 := Lib.hid hO3
      clear hB3 hO3 hb4 y0 y1 y2 y3 y4
      go_wp2
      refine bodyPost_ret (results1 rfl (res_blk (cs := [iv 6, iv 0, fv 0, .string ⟨#[]⟩, .slice a l.length cap]) Try.underlying33 (by kernel_rfl) rfl HB3.out)) rfl ?_
      have hfar : ∀ g ∈ (Value.slice a l.length cap).ownBlock.toList ++ Ss.flatten, g ∉ [w.heap.size] := fun g hg hm => by
        have := HM.out.ge g hg
        simp at hm
        omega
      have hS2 : Sl wr 33 5 (.slice a l.length cap) (toVs l).length css.flatten := by rw [hacl]; exact HS.out
      have hvo : VO w3 (.mk 6 0 0 ⟨#[]⟩ (toVs l)) [iv 6, iv 0, fv 0, .string ⟨#[]⟩, .slice a l.length cap] ((Value.slice a l.length cap).ownBlock.toList ++ Ss.flatten) :=
        .mk css Ss (by decide) (by decide) (by omega) (Nat.zero_le _) HM.out.cl HM.out.sl' (hS2.only HO3.out fun g hg => hfar g (List.mem_append_left _ (by simp [hg]))) (fun j hj => (HM.out.els j hj).only HO3.out fun g hg => hfar g (List.mem_append_right _ (flatten_mem (by rw [HM.out.sl']; exact hj) hg)))
      exact ⟨_, _, rfl, hvo, HM.out.nodup, (fun g hg => by have := HM.out.ge g hg; omega), HM.out.only.trans' HO3.out (fun i hi => .inr (by simp at hi; omega))⟩
theorem plain_ok (x : I) : PlainOk x := by
  refine I.rec (motive_1 := PlainOk) (motive_2 := fun l => ∀ x ∈ l, PlainOk x) plain_void plain_truth plain_whole plain_number plain_text ?_ ?_ ?_ x
  · intro l hl
    exact plain_list l fun j h => hl _ (List.getElem_mem h)
  · intro x hx; cases hx
  · intro a l ha hl x hx
    rcases List.mem_cons.1 hx with rfl | hx
    · exact ha
    · exact hl x hx
end Go.Proofs.Ytffdfegelgpniaa
/-
  Copy.
-/
set_option linter.unusedSimpArgs false
set_option linter.unusedVariables false
namespace Go.Proofs.Ytffdfegelgpniaa
open Go.RowKit Go.Fl

/-- What Copy answers. -/
def CopyPost (w : World) (x : Option I) (e : Ending) (w' : World) : Prop :=
  match x with
  | none => e = .returned (.tuple #[.agg zeroV.toArray, iv 1]) ∧ Only [] w w'
  | some x => ∃ cs S, e = .returned (.tuple #[.agg cs.toArray, iv 0]) ∧ VO w' x.toV cs S ∧ S.Nodup ∧ (∀ g ∈ S, w.heap.size ≤ g) ∧ Only [] w w'
set_option maxRecDepth 100000 in
theorem copy_ok {w : World} {F : Nat → Prop} {v : V} {cs : List Value} (h : VIs w F v cs) : Calls Try.prog 24 #[.agg cs.toArray] w (CopyPost w v.item) := by
  have H := Lib.hid h
  obtain ⟨k, i, r, t, a, n, cap, rfl⟩ := h.five
  clear h
  have HT := Lib.hid (made_ok (H.out.only0 (w' := (w.alloc (.cells #[iv k, iv i, fv r, .string t, .slice a n cap] 33)).alloc (.cells zeroV.toArray 33)) (((Only.refl _ w).alloc _).alloc _)))
  have HB2 := Lib.hid (show Blk ((w.alloc (.cells #[iv k, iv i, fv r, .string t, .slice a n cap] 33)).alloc (.cells zeroV.toArray 33)) (w.heap.size + 1) 33 zeroV.toArray by
    have h := Blk.new (w.alloc (.cells #[iv k, iv i, fv r, .string t, .slice a n cap] 33)) 33 zeroV.toArray
    rw [show (w.alloc (.cells #[iv k, iv i, fv r, .string t, .slice a n cap] 33)).heap.size = w.heap.size + 1 by simp] at h
    exact h)
  have HI := Lib.hid (fun x (hx : v.item = some x) => item_size hx)
  generalize v.item = vi at *
  go_enter Try.func24, Try.ntmps24
  go_wp2_with fail
  refine HT.out.mono ?_
  clear HT
  rintro e w2 ⟨u, rfl, hu, ho⟩
  have HO := Lib.hid ((((Only.refl _ w).alloc _).alloc _).trans ho)
  have HB := Lib.hid (HB2.out.only ho (by simp))
  clear ho HB2
  cases vi with
  | none =>
    obtain rfl : u = .nilIface := hu
    have hb := HB.out
    go_wp2_with (refine wpList_store_blk rfl 33 (.tmp 2) (.tmp 9) rfl zeroV rfl rfl hb (by kernel_rfl) (by simp) (by simp [Value.oneCell']) ?_)
    intro w3 hB3 hO3
    have HB3 := Lib.hid (show Blk w3 (w.heap.size + 1) 33 zeroV.toArray from hB3)
    have HO3 := Lib.hid hO3
    clear hB3 hO3 hb
    go_wp2
    exact bodyPost_ret (results2 rfl (res_blk (cs := zeroV) Try.underlying33 (by kernel_rfl) rfl HB3.out) (res_tmp rfl)) rfl ⟨rfl, HO.out.trans' HO3.out fun i hi => .inr (by simp at hi; omega)⟩
  | some x =>
    obtain ⟨u', rfl, hx⟩ := hu
    have HS := Lib.hid (plain_ok x w2 _ u' hx (HI.out x rfl))
    have hm1 := m_plain hx
    have hm2 := c_plain x
    clear hx HI
    go_wp2_with fail
    refine HS.out.mono ?_
    clear HS hm1 hm2
    rintro e w3 ⟨cs, S, rfl, hvo, hnd, hge, ho⟩
    obtain ⟨k0, i0, r0, t0, sa0, sn0, sc0, rfl⟩ := hvo.form
    have HV := Lib.hid hvo
    have HN := Lib.hid hnd
    have HG := Lib.hid hge
    have HO2 := Lib.hid (HO.out.trans ho)
    have hb := HB.out.only ho (by simp)
    have HSZ := Lib.hid HO.out.size
    have HLT := Lib.hid (show w.heap.size + 1 < w2.heap.size from HB.out.lt)
    clear hvo hnd hge ho HB HO
    go_wp2_with (refine wpList_store_blk rfl 33 (.tmp 2) (.tmp 11) rfl [iv k0, iv i0, fv r0, .string t0, .slice sa0 sn0 sc0] rfl rfl hb (by kernel_rfl) (by simp) (by simp [Value.oneCell']) ?_)
    intro w4 hB4 hO4
    have HB4 := Lib.hid (show Blk w4 (w.heap.size + 1) 33 #[iv k0, iv i0, fv r0, .string t0, .slice sa0 sn0 sc0] from hB4)
    have HO4 := Lib.hid hO4
    clear hB4 hO4 hb
    go_wp2
    exact bodyPost_ret (results2 rfl (res_blk (cs := [iv k0, iv i0, fv r0, .string t0, .slice sa0 sn0 sc0]) Try.underlying33 (by kernel_rfl) rfl HB4.out) (res_tmp rfl)) rfl ⟨_, S, rfl, HV.out.only HO4.out (fun g hg hm => by
      have := HG.out g hg; have := HLT.out; simp at hm; omega), HN.out, (fun g hg => Nat.le_trans HSZ.out (HG.out g hg)), HO2.out.trans' HO4.out fun i hi => .inr (by simp at hi; omega)⟩
end Go.Proofs.Ytffdfegelgpniaa
