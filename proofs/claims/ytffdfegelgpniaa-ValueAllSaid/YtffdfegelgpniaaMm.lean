/-
  ValueAll: small laws.
-/
import Derived.Test.YtffdfegelgpniaaZEc
import Derived.Test.YtffdfegelgpniaaZCk
import Derived.Test.YtffdfegelgpniaaMl
set_option linter.unusedSimpArgs false
set_option linter.unusedVariables false
set_option linter.unusedSimpArgs false
set_option linter.unusedVariables false
namespace Go.Proofs.Ytffdfegelgpniaa
open Go.Fl Go.RowKit

theorem light_lt {v : V} {deep left : Int} (h : 0 ≤ v.light deep left) : v.light deep left ≤ left - 1 := by
  cases v with
  | mk k i r t l =>
    unfold V.light at h ⊢
    split at h
    · omega
    · rename_i hd
      rw [if_neg hd]
      by_cases h0 : 0 ≤ left - 1
      · exact (lights_low l (deep + 1) (left - 1) (by omega)).2
      · rw [lights_neg l _ _ (by omega)] at h ⊢
        omega
mutual
theorem V.light_small : ∀ (v : V) (deep left : Int), 0 ≤ v.light deep left → left ≤ 3000 → v.small
  | .mk k i r t l, deep, left, h, hl => by
    unfold V.light at h
    split at h
    · omega
    · have h1 := lights_small l (deep + 1) (left - 1) h (by omega)
      exact ⟨by omega, h1.2⟩
theorem lights_small : ∀ (l : List V) (deep left : Int), 0 ≤ lights l deep left → left ≤ 3000 → (l.length : Int) ≤ left ∧ Smalls l
  | [], deep, left, h, hl => ⟨by unfold lights at h; simpa using h, trivial⟩
  | v :: l, deep, left, h, hl => by
    unfold lights at h
    split at h
    · omega
    · rename_i h0
      have hv : 0 ≤ v.light deep left := by
        by_cases hn : 0 ≤ v.light deep left
        · exact hn
        · rw [lights_neg l deep _ (by omega)] at h
          exact h
      have h1 := light_lt hv
      have h2 := lights_small l deep _ h (by omega)
      refine ⟨by rw [List.length_cons]; have := h2.1; omega, V.light_small v deep left hv hl, h2.2⟩
end
theorem isLight_small {v : V} (h : v.isLight = true) : v.small := V.light_small v 0 3000 (of_decide_eq_true h) (by omega)
/-- What a copy answers. -/
def cpV (v : V) : V := match v.item with
  | none => .mk 0 0 0 ⟨#[]⟩ []
  | some x => x.toV
def cpE (v : V) : Int := match v.item with
  | none => 1
  | some _ => 0
theorem copy_any {w w' : World} {v : V} {e : Ending} (h : CopyPost w v.item e w') :
    ∃ cs S, e = .returned (.tuple #[.agg cs.toArray, iv (cpE v)]) ∧ VO w' (cpV v) cs S ∧ S.Nodup ∧ (∀ g ∈ S, w.heap.size ≤ g) ∧ Only [] w w' := by
  unfold cpV cpE
  unfold CopyPost at h
  cases hx : v.item with
  | none =>
    rw [hx] at h
    obtain ⟨rfl, ho⟩ := h
    exact ⟨zeroV, [], rfl, VO.plain (by decide) (by decide) (by omega) (Nat.zero_le _), List.nodup_nil, (fun g hg => by cases hg), ho⟩
  | some x =>
    rw [hx] at h
    obtain ⟨cs, S, rfl, hvo, hnd, hge, ho⟩ := h
    exact ⟨cs, S, rfl, hvo, hnd, hge, ho⟩
def kyB (v : V) : List Nat := match v.item with
  | none => []
  | some x => x.key
theorem key_any {w w' : World} {v : V} {e : Ending} (h : KeyRes w v.item e w') :
    ∃ a cap, e = .returned (.tuple #[.slice a (kyB v).length cap, iv (cpE v)]) ∧ Sl w' 5 1 (.slice a (kyB v).length cap) (kyB v).length ((kyB v).map bv) ∧ (∀ g, (Value.slice a (kyB v).length cap).ownBlock = some g → w.heap.size ≤ g) ∧ Only [] w w' := by
  unfold kyB cpE
  unfold KeyRes at h
  cases hx : v.item with
  | none =>
    rw [hx] at h
    obtain ⟨b, rfl, hs, hg, ho⟩ := h
    obtain ⟨a, cap, rfl, _⟩ := hs.shape
    exact ⟨a, cap, rfl, hs, hg, ho⟩
  | some x =>
    rw [hx] at h
    obtain ⟨b, rfl, hs, hg, ho⟩ := h
    obtain ⟨a, cap, rfl, _⟩ := hs.shape
    exact ⟨a, cap, rfl, hs, hg, ho⟩
theorem kyB_byte (v : V) : ∀ c ∈ kyB v, c < 256 := by
  unfold kyB
  cases v.item with
  | none => intro c h; cases h
  | some x => exact key_byte x
theorem kyB_len (v : V) : (kyB v).length ≤ 1099511627776 := by
  unfold kyB
  cases hx : v.item with
  | none => exact Nat.zero_le _
  | some x =>
    have h1 := key_len x
    have h2 := item_size hx
    show x.key.length ≤ _
    omega
mutual
theorem toV_small : ∀ (x : I), x.size ≤ 65536 → x.toV.small
  | .void, _ => ⟨by simp, trivial⟩
  | .truth _, _ => ⟨by simp, trivial⟩
  | .whole _, _ => ⟨by simp, trivial⟩
  | .number _, _ => ⟨by simp, trivial⟩
  | .text _, _ => ⟨by simp, trivial⟩
  | .list l, h => by
    have h1 : 1 + sizes l ≤ 65536 := h
    have h2 := toVs_small l (by omega)
    exact ⟨by omega, h2.2⟩
theorem toVs_small : ∀ (l : List I), sizes l ≤ 65536 → (toVs l).length ≤ sizes l ∧ Smalls (toVs l)
  | [], _ => ⟨Nat.zero_le _, trivial⟩
  | x :: l, h => by
    have h1 : x.size + sizes l ≤ 65536 := h
    have hp := I.size_pos x
    have h2 := toVs_small l (by omega)
    refine ⟨?_, toV_small x (by omega), h2.2⟩
    show (toVs l).length + 1 ≤ x.size + sizes l
    omega
end
theorem cp_small (v : V) : (cpV v).small := by
  unfold cpV
  cases hx : v.item with
  | none => exact ⟨by simp, trivial⟩
  | some x => exact toV_small x (item_size hx)
theorem QK.begin {N : Nat} {W : World} {r : Nat} (h : Blk W r 53 #[.slice none 0 0, iv 0]) (hN : N ≤ r) : QK N W r (.slice none 0 0) 0 [] :=
  ⟨hN, h, Nat.zero_le _, Nat.zero_le _, Sl.nil _ _ _, (fun g hg => by cases hg), fun j h => absurd h (Nat.not_lt_zero _), fun i j hi => absurd hi (Nat.not_lt_zero _)⟩
theorem QK.qe {W w : World} {r gb ob cb sz : Nat} {ents : List Value} (h : QK W.heap.size w r (.slice (some ⟨gb, ob, none⟩) ents.length cb) sz ents) (ho : Only [] W w) : QE W w r gb ob cb sz ents (Q1 1 4194304 0) :=
  ⟨h.rge, h.sge gb rfl, h.blk, h.sl, fun j hj => by
    obtain ⟨g, off, n, cap, xs, h1, h2, h3, h4⟩ := h.ent j hj
    exact ⟨g, off, n, cap, xs, h1, h2, by omega, h4, fun h => absurd h (Nat.not_lt_zero _), fun _ => h3⟩, h.apart, ho⟩
set_option maxRecDepth 100000 in
set_option maxHeartbeats 3200000 in
theorem apartB_nil {W w : World} {r sz : Nat} (h : Blk w r 53 #[.slice none 0 0, iv sz]) (ho : Only [] W w) : Calls Try.prog 34 #[.pointer (some ⟨r, 0, none⟩)] w fun e w' => e = .returned (.bool true) ∧ Only [] W w' := by
  have r0 := h.cell 0
  simp at r0
  go_enter Try.func34, Try.ntmps34
  go_wp2
  go_loopw [3] (fun z wr => ∃ sc : Nat, Hid (sc = 1 ∨ sc = 250 ∨ sc = 62500) ∧ z = .int .i64 sc ∧ wr = w) (fun z _ => 100000 - (intOf z).toNat)
  case atStart => exact ⟨1, Lib.hid (.inl rfl), rfl, rfl⟩
  case round =>
    obtain ⟨sc, HS, rfl, rfl⟩ := hrel
    by_cases hsc : (sc : Int) ≤ 250
    case neg =>
      go_wp2
      exact bodyPost_ret (results_tmp rfl _ _ _) rfl ⟨rfl, ho⟩
    have hsw : wrap64 ((sc : Int) * 250) = ((sc * 250 : Nat) : Int) := by
      rcases HS.out with rfl | rfl | rfl <;> (unfold wrap64; omega)
    have HX := Lib.hid (show (sc * 250 = 1 ∨ sc * 250 = 250 ∨ sc * 250 = 62500) ∧ 0 < sc by
      rcases HS.out with rfl | rfl | rfl <;> omega)
    go_wp2
    go_loopw [4] (fun z wr2 => z = .int .i64 0 ∧ wr2 = wr) (fun _ _ => 0)
    case atStart => exact ⟨rfl, rfl⟩
    case round =>
      obtain ⟨rfl, rfl⟩ := hrel
      go_wp2
      go_loopw [7] (fun z wr3 => z = .int .i64 0 ∧ wr3 = wr) (fun _ _ => 0)
      case atStart => exact ⟨rfl, rfl⟩
      case round =>
        obtain ⟨rfl, rfl⟩ := hrel
        go_wp2
        go_roundw
        case measure => have := HX.out.2; simp [intOf]; omega
        case rel => exact ⟨sc * 250, Lib.hid HX.out.1, by first | rfl | go_num | (rw [hsw]), trivial⟩
theorem ApartB_ok {W w : World} {r sz : Nat} {bsl : Value} {ents : List Value} (h : QK W.heap.size w r bsl sz ents) (ho : Only [] W w) : Calls Try.prog 34 #[.pointer (some ⟨r, 0, none⟩)] w fun e w' => e = .returned (.bool true) ∧ Only [] W w' := by
  have hs := h.sl
  rcases hs.2 with ⟨rfl, h0⟩ | ⟨gb, ob, cb, cur, rfl, _⟩
  · exact apartB_nil h.blk ho
  · exact apartB_ok (h.qe ho) (Nat.le_trans h.cnt h.szl)
end Go.Proofs.Ytffdfegelgpniaa
/-
  ValueAll: both books in memory, while the values are gone through.
-/
set_option linter.unusedSimpArgs false
set_option linter.unusedVariables false
namespace Go.Proofs.Ytffdfegelgpniaa
open Go.Fl Go.RowKit

theorem TO.blk {w : World} {v : V} {cs : List Value} {S : List Nat} (h : TO w v cs S) : ∀ g ∈ S, ∃ cur, Blk w g 33 cur := by
  induction h with
  | @mk k i r t l g off cap css Ss h1 h2 h3 h4 h5 h6 h7 h8 ih =>
    intro g' hg
    rcases List.mem_cons.1 hg with rfl | hg
    · exact Sl.blk h7 rfl
    · obtain ⟨S, hS, hg⟩ := List.mem_flatten.1 hg
      obtain ⟨j, hj, rfl⟩ := List.getElem_of_mem hS
      have := ih j (by omega) g'
      rw [List.getD_eq_getElem?_getD, List.getElem?_eq_getElem hj] at this
      exact this hg
/-- What stays while a book is written. -/
structure ST (w w' : World) : Prop where
  size : w.heap.size ≤ w'.heap.size
  ty : ∀ g cur, Blk w g 33 cur → w'.heap[g]? = w.heap[g]?
theorem ST.trans {a b c : World} (h : ST a b) (k : ST b c) : ST a c :=
  ⟨Nat.le_trans h.size k.size, fun g cur hb => (k.ty g cur ((h.ty g cur hb).trans hb)).trans (h.ty g cur hb)⟩
theorem ST.of {a b : World} (h : Only [] a b) : ST a b := ⟨h.size, fun g cur hb => h.block g hb.lt (by simp)⟩
theorem ST.blk {a b : World} (h : ST a b) {g : Nat} {cur : Array Value} (hb : Blk a g 33 cur) : Blk b g 33 cur := (h.ty g cur hb).trans hb
theorem TO.st {w w' : World} {v : V} {cs : List Value} {S : List Nat} (h : TO w v cs S) (k : ST w w') : TO w' v cs S := h.keep fun g hg => by
  obtain ⟨cur, hb⟩ := TO.blk h g hg
  exact k.ty g cur hb
theorem VO.st {w w' : World} {v : V} {cs : List Value} {S : List Nat} (h : VO w v cs S) (k : ST w w') : VO w' v cs S := h.keep fun g hg => by
  obtain ⟨cur, hb⟩ := VO.blk h g hg
  exact k.ty g cur hb
/-- The book of values stands below mb, the book of bytes below m. -/
structure VA (w1 : World) (mb m : Nat) (w : World) (bsl kbsl : Value) (sz : Nat) (ents kents : List Value) : Prop where
  bk : BK w1.heap.size w w1.heap.size bsl ents
  qk : QK w1.heap.size w (w1.heap.size + 1) kbsl sz kents
  only : Only [] w1 w
  bm : ∀ (j : Nat) (h : j < ents.length) (g : Nat), ents[j].ownBlock = some g → g < mb
  km : ∀ (j : Nat) (h : j < kents.length) (g : Nat), kents[j].ownBlock = some g → g < m
def VB (w1 : World) (mb m : Nat) (w : World) : Prop := ∃ bsl kbsl sz ents kents, VA w1 mb m w bsl kbsl sz ents kents
section
variable {w1 w w' : World} {m m' mb : Nat}
theorem VB.only (h : VB w1 mb m w) : Only [] w1 w := by
  obtain ⟨_, _, _, _, _, h⟩ := h
  exact h.only
theorem VB.only0 (h : VB w1 mb m w) (ho : Only [] w w') : VB w1 mb m w' := by
  obtain ⟨bsl, kbsl, sz, ents, kents, h⟩ := h
  exact ⟨bsl, kbsl, sz, ents, kents, h.bk.only0 ho, h.qk.only0 ho, h.only.trans ho, h.bm, h.km⟩
theorem VB.of {bsl kbsl : Value} {sz : Nat} {ents kents : List Value} (hb : BK w1.heap.size w w1.heap.size bsl ents) (hq : QK w1.heap.size w (w1.heap.size + 1) kbsl sz kents) (ho : Only [] w1 w) : VB w1 w.heap.size w.heap.size w := by
  refine ⟨bsl, kbsl, sz, ents, kents, hb, hq, ho, fun j hj g e => ?_, fun j hj g e => ?_⟩
  · obtain ⟨g2, off2, n2, cap2, xs2, e2, _, _, hs2⟩ := hb.ent j hj
    rw [e2] at e
    exact hs2.lt g e
  · obtain ⟨g2, off2, n2, cap2, xs2, e2, _, _, hs2⟩ := hq.ent j hj
    rw [e2] at e
    exact hs2.lt g e
theorem VB.now (h : VB w1 mb m w) : VB w1 w.heap.size w.heap.size w := by
  obtain ⟨bsl, kbsl, sz, ents, kents, h⟩ := h
  exact VB.of h.bk h.qk h.only
theorem VB.begin (w1 : World) : VB w1 w1.heap.size w1.heap.size ((w1.alloc (.cells #[.slice none 0 0] 27)).alloc (.cells #[.slice none 0 0, iv 0] 53)) := by
  refine ⟨.slice none 0 0, .slice none 0 0, 0, [], [], (BK.begin w1).only0 ((Only.refl _ _).alloc _), ?_, ((Only.refl _ _).alloc _).alloc _, fun j h => absurd h (Nat.not_lt_zero _), fun j h => absurd h (Nat.not_lt_zero _)⟩
  have h := Blk.new (w1.alloc (.cells #[.slice none 0 0] 27)) 53 #[.slice none 0 0, iv 0]
  rw [show (w1.alloc (.cells #[.slice none 0 0] 27)).heap.size = w1.heap.size + 1 by simp] at h
  exact QK.begin h (by omega)
theorem QK.besides2 {N r sz : Nat} {bsl : Value} {ents : List Value} (h : QK N w r bsl sz ents) (ho : Only (r :: bsl.ownBlock.toList) w w') {g t : Nat} {cur : Array Value} (hb : Blk w g t cur) (h1 : t ≠ 53) (h2 : t ≠ 28) : w'.heap[g]? = w.heap[g]? :=
  h.besides ho hb h1 fun e => by
    obtain ⟨cur', hb'⟩ := Sl.blk h.sl e
    exact Blk.ne_ hb hb' h2 rfl
/-- The lists of a value that was answered are kept. -/
theorem VB.keepV {v : V} {cs : List Value} {S : List Nat} (h : VB w1 mb m w) (hm1 : w1.heap.size ≤ mb) (hmm : mb ≤ m') (hvo : VO w v cs S) (hnd : S.Nodup) (hge : ∀ g ∈ S, mb ≤ g) (hlt : ∀ g ∈ S, g < m') (hsm : v.small) :
    Calls Try.prog 16 #[.pointer (some ⟨w1.heap.size, 0, none⟩), .agg cs.toArray] w fun e w' => e = .returned (.tuple #[]) ∧ VB w1 m' m w' ∧ ST w w' ∧ ∀ g cur, Blk w g 5 cur → w'.heap[g]? = w.heap[g]? := by
  obtain ⟨bsl, kbsl, sz, ents, kents, h⟩ := h
  refine (keep_ok v w1.heap.size w w1.heap.size bsl ents cs S h.bk h.only.size hvo hnd (fun g hg => by have := hge g hg; omega) (fun j hj g hg e => by
    have h1 := h.bm j hj g e
    have h2 := hge g hg
    omega) hsm).mono ?_
  rintro e w' ⟨rfl, bsl2, ents2, hb2, hsrc, hown, hon⟩
  refine ⟨rfl, ⟨bsl2, kbsl, sz, ents2, kents, hb2, h.qk.types (fun g t cur hb ht => h.bk.besides hon hb (by rcases ht with rfl | rfl | rfl <;> decide) (by rcases ht with rfl | rfl | rfl <;> decide)), h.only.trans' hon (fun i hi => .inr ?_), fun j hj g e => ?_, h.km⟩, ⟨hon.size, fun g cur hb => h.bk.besides hon hb (by decide) (by decide)⟩, fun g cur hb => h.bk.besides hon hb (by decide) (by decide)⟩
  · rcases List.mem_cons.1 hi with e | hi
    · omega
    · exact h.bk.sge i (by simpa using hi)
  · rcases hsrc j hj with ⟨i, hi, e2⟩ | ⟨g2, hg2, e2⟩
    · rw [e2] at e
      exact Nat.lt_of_lt_of_le (h.bm i hi g e) hmm
    · rw [e2] at e
      injection e with e
      subst e
      exact hlt _ hg2
/-- Two lists of bytes are kept. -/
theorem VB.keepK {w0 : World} {ls : Value} {a1 a2 : Option Addr} {n1 n2 c1 c2 : Nat} {xs1 xs2 : List Value} (h : VB w1 mb m w0) (hm1 : w1.heap.size ≤ m) (ho : Only [] w0 w)
    (hls : Sl w 28 1 ls 2 [.slice a1 n1 c1, .slice a2 n2 c2]) (hlb : ∀ g, ls.ownBlock = some g → w0.heap.size ≤ g)
    (hs1 : Sl w 5 1 (.slice a1 n1 c1) n1 xs1) (hg1 : ∀ g, (Value.slice a1 n1 c1).ownBlock = some g → m ≤ g ∧ g < m') (hn1 : n1 ≤ 1099511627776)
    (hs2 : Sl w 5 1 (.slice a2 n2 c2) n2 xs2) (hg2 : ∀ g, (Value.slice a2 n2 c2).ownBlock = some g → m' ≤ g) (hmm : m ≤ m') (hn2 : n2 ≤ 1099511627776) :
    Calls Try.prog 31 #[.pointer (some ⟨w1.heap.size + 1, 0, none⟩), ls] w fun e w' => e = .returned (.tuple #[]) ∧ VB w1 w'.heap.size w'.heap.size w' ∧ ST w w' := by
  obtain ⟨bsl, kbsl, sz, ents, kents, h⟩ := h
  have hq := h.qk.only0 ho
  have hb := h.bk.only0 ho
  have hks : KS w1.heap.size w ls [.slice a1 n1 c1, .slice a2 n2 c2] kents := by
    refine ⟨hls, by simp, fun i hi => ?_, fun i j hi hj hij g e => ?_, fun j i hj hi g e => ?_⟩
    · match i, hi with
      | 0, _ => exact ⟨a1, n1, c1, xs1, rfl, hn1, hs1, fun g hg => by have := hg1 g hg; omega⟩
      | 1, _ => exact ⟨a2, n2, c2, xs2, rfl, hn2, hs2, fun g hg => by have := hg2 g hg; omega⟩
    · have hi2 : i < 2 := hi
      have hj2 : j < 2 := hj
      obtain rfl : i = 0 := by omega
      obtain rfl : j = 1 := by omega
      intro e2
      have h1 := hg1 g e
      have h2 := hg2 g e2
      omega
    · intro e2
      have h3 := h.km j hj g e2
      match i, hi, e with
      | 0, _, e => have h1 := hg1 g e; omega
      | 1, _, e => have h2 := hg2 g e; omega
  refine (keepB_ok hq hks (h.only.trans ho).size fun g e e2 => ?_).mono ?_
  · have h1 := hlb g e
    have h2 := h.qk.sl.lt g e2
    omega
  · rintro e w' ⟨rfl, bsl2, zz, ents2, hr⟩
    refine ⟨rfl, VB.of (hb.keep ?_ ?_ ?_) hr.qk ((h.only.trans ho).trans' hr.only fun i hi => .inr ?_), ⟨hr.only.size, fun g cur hb3 => hq.besides2 hr.only hb3 (by decide) (by decide)⟩⟩
    · exact hq.besides2 hr.only hb.blk (by decide) (by decide)
    · intro g hg
      obtain ⟨cur, hb3⟩ := Sl.blk hb.sl hg
      exact hq.besides2 hr.only hb3 (by decide) (by decide)
    · exact fun g cur hb3 => hq.besides2 hr.only hb3 (by decide) (by decide)
    · rcases List.mem_cons.1 hi with e | hi
      · omega
      · exact hq.sge i (by simpa using hi)
/-- Both are written full. -/
theorem VB.done (h : VB w1 mb m w) : Calls Try.prog 17 #[.pointer (some ⟨w1.heap.size, 0, none⟩)] w fun e w9 => e = .returned (.bool true) ∧ Calls Try.prog 34 #[.pointer (some ⟨w1.heap.size + 1, 0, none⟩)] w9 fun e w' => e = .returned (.bool true) ∧ Only [] w1 w' := by
  obtain ⟨bsl, kbsl, sz, ents, kents, h⟩ := h
  refine (Apart_ty h.bk h.only).mono ?_
  rintro e w9 ⟨rfl, hot⟩
  exact ⟨rfl, ApartB_ok (h.qk.types hot.ty) hot.only⟩
end
end Go.Proofs.Ytffdfegelgpniaa
