/-
  Reading: a byte, room, eight bytes.
-/
import Derived.Test.YtffdfegelgpniaaVl
set_option linter.unusedSimpArgs false
set_option linter.unusedVariables false
namespace Go.Proofs.Ytffdfegelgpniaa
open Go.RowKit Go.Fl

/-- Bytes in memory. -/
def BytesV (w : World) (F : Nat → Prop) (bs : List Nat) (s : Value) : Prop :=
  ∃ a cap, s = .slice a bs.length cap ∧ bs.length ≤ cap ∧ cap ≤ maxLen ∧ (∀ c ∈ bs, c < 256) ∧ (0 < bs.length → ∃ g off, a = some ⟨g, off, none⟩ ∧ g < w.heap.size ∧ F g ∧ ∀ j (h : j < bs.length), w.cell? ⟨g, off + j, none⟩ = some (bv bs[j]))
theorem BytesV.keep {w w' : World} {F F' : Nat → Prop} {bs : List Nat} {s : Value} (h : BytesV w F bs s) (hs : w.heap.size ≤ w'.heap.size) (hk : ∀ g, F g → g < w.heap.size → w'.heap[g]? = w.heap[g]?) (hF : ∀ g, F g → g < w.heap.size → F' g) : BytesV w' F' bs s := by
  obtain ⟨a, cap, rfl, h1, h2, h3, h4⟩ := h
  refine ⟨a, cap, rfl, h1, h2, h3, fun h0 => ?_⟩
  obtain ⟨g, off, rfl, hg, hf, hc⟩ := h4 h0
  exact ⟨g, off, rfl, Nat.lt_of_lt_of_le hg hs, hF g hf hg, fun j hj => (World.cell?_of_block (w := w) (hk g hf hg)).trans (hc j hj)⟩
theorem BytesV.only {w w' : World} {F : Nat → Prop} {S : List Nat} {bs : List Nat} {s : Value} (h : BytesV w F bs s) (ho : Only S w w') (hF : ∀ g, F g → g ∉ S) : BytesV w' F bs s := h.keep ho.size (fun g hf hg => ho.block g hg (hF g hf)) fun _ h _ => h
/-- A parser in memory. -/
structure PS (w : World) (F : Nat → Prop) (r : Nat) (bs : List Nat) (s : Value) (at_ : Nat) (room : Int) : Prop where
  blk : Blk w r 59 #[s, iv at_, iv room]
  bytes : BytesV w F bs s
  out : ¬ F r
  le : at_ ≤ bs.length
theorem PS.only {w w' : World} {F : Nat → Prop} {r : Nat} {bs : List Nat} {s : Value} {at_ : Nat} {room : Int} (h : PS w F r bs s at_ room) (ho : Only [] w w') : PS w' F r bs s at_ room :=
  ⟨h.blk.only ho (by simp), h.bytes.only ho (fun _ _ => by simp), h.out, h.le⟩
theorem PS.put {w w' : World} {F : Nat → Prop} {r : Nat} {bs : List Nat} {s : Value} {at_ at2 : Nat} {room room2 : Int} (h : PS w F r bs s at_ room) (hb : Blk w' r 59 #[s, iv at2, iv room2]) (ho : Only [r] w w') (hl : at2 ≤ bs.length) : PS w' F r bs s at2 room2 :=
  ⟨hb, h.bytes.only ho (fun g hg hm => h.out (by simp at hm; exact hm ▸ hg)), h.out, hl⟩
theorem PS.strict {w : World} {F : Nat → Prop} {r : Nat} {bs : List Nat} {s : Value} {at_ : Nat} {room : Int} (h : PS w F r bs s at_ room) : PS w (fun g => F g ∧ g < w.heap.size) r bs s at_ room :=
  ⟨h.blk, h.bytes.keep (Nat.le_refl _) (fun _ _ _ => rfl) (fun g hf hg => ⟨hf, hg⟩), fun hh => h.out hh.1, h.le⟩
theorem PS.mono {w : World} {F F' : Nat → Prop} {r : Nat} {bs : List Nat} {s : Value} {at_ : Nat} {room : Int} (h : PS w F r bs s at_ room) (hF : ∀ g, F g → F' g) (hr : ¬ F' r) : PS w F' r bs s at_ room :=
  ⟨h.blk, h.bytes.keep (Nat.le_refl _) (fun _ _ _ => rfl) (fun g hf _ => hF g hf), hr, h.le⟩
theorem PS.grown {w w' : World} {F : Nat → Prop} {r : Nat} {bs : List Nat} {s : Value} {at_ : Nat} {room : Int} {row : Option Nat} (h : PS w F r bs s at_ room) (hg : w.grownBy w' row) (hr : row ≠ some r) (hF : ∀ g, F g → row ≠ some g) : PS w' F r bs s at_ room :=
  ⟨(hg.block r h.blk.lt (fun e => hr e.symm)).trans h.blk, h.bytes.keep hg.size (fun g hf hl => hg.block g hl (fun e => hF g hf e.symm)) (fun g hf _ => hf), h.out, h.le⟩
def wrongV (p e : Int) : Value := .iface 61 (.agg #[iv p, iv e])
theorem fail_ok (w : World) (p e : Int) : Calls Try.prog 48 #[iv p, iv e] w fun x w' => x = .panicked [{ v := wrongV p e, recovered := false }] ∧ w' = w := by
  go_enter Try.func48, Try.ntmps48
  go_wp2
  exact ⟨rfl, rfl, rfl⟩
def NextPost (w : World) (F : Nat → Prop) (r : Nat) (bs : List Nat) (s : Value) (at_ : Nat) (room : Int) (e : Ending) (w' : World) : Prop :=
  match bs[at_]? with
  | some c => e = .returned (bv c) ∧ PS w' F r bs s (at_ + 1) room ∧ Only [r] w w'
  | none => e = .panicked [{ v := wrongV bs.length 2, recovered := false }] ∧ Only [r] w w'
set_option maxRecDepth 100000 in
theorem next_ok {w : World} {F : Nat → Prop} {r : Nat} {bs : List Nat} {s : Value} {at_ : Nat} {room : Int} (h : PS w F r bs s at_ room) : Calls Try.prog 37 #[.pointer (some ⟨r, 0, none⟩)] w (NextPost w F r bs s at_ room) := by
  have H := Lib.hid h
  obtain ⟨a, cap, hs, hl, hm, hbb, hcell⟩ := h.bytes
  subst hs
  have hlm : bs.length ≤ maxLen := by omega
  unfold maxLen at hlm
  obtain ⟨hc, hf, hlt⟩ := h.blk.facts
  have x0 := hc 0
  have x1 := hc 1
  have f1 := hf 1
  simp at x0 x1
  have hle := h.le
  clear hc hf h
  unfold NextPost
  by_cases hk : at_ < bs.length
  · have hkz : (at_ : Int) < (bs.length : Int) := by omega
    have hne : ((at_ : Int) == (bs.length : Int)) = false := by rw [beq_eq_false_iff_ne]; omega
    rw [List.getElem?_eq_getElem hk]
    obtain ⟨g, off, rfl, hg, hF, hcc⟩ := hcell (by omega)
    have hgr : g ≠ r := fun e => H.out.out (e ▸ hF)
    have y0 := hcc at_ hk
    have hb1 := Lib.hid (show Blk (w.drew.setCell ⟨r, 1, none⟩ (.int .i64 (at_ + 1))) r 59 #[.slice (some ⟨g, off, none⟩) bs.length cap, iv (at_ + 1), iv room] from H.out.blk.drew.set_ 1 _)
    have hrg : r ≠ g := fun e => hgr e.symm
    clear hcc hcell
    go_enter Try.func37, Try.ntmps37
    go_wp2
    refine Lex.wp_region_text (by kernel_rfl) (by kernel_rfl) ?_
    go_wp2
    refine Lex.sq_done (by rfl) ?_
    go_wp2
    refine Lex.wp_region_text (by kernel_rfl) (by kernel_rfl) ?_
    go_wp2
    refine Lex.sq_done (by rfl) ?_
    go_wp2
    refine bodyPost_ret (results_tmp rfl _ _ _) rfl ⟨rfl, H.out.put ?_ ?_ (by omega), ?_⟩
    · exact hb1.out
    · (repeat (first | with_reducible exact Only.refl _ _ | with_reducible exact Only.refl _ _ | with_reducible refine Only.drew ?_ | with_reducible refine Only.drewN ?_ _ | with_reducible refine Only.alloc ?_ _ | ((with_reducible refine Only.setCell ?_ ?_ _); rotate_left; (focus (first | (left; simp; done) | (right; simp; done) | (right; simp; omega) | (right; omega))))))
    · (repeat (first | with_reducible exact Only.refl _ _ | with_reducible exact Only.refl _ _ | with_reducible refine Only.drew ?_ | with_reducible refine Only.drewN ?_ _ | with_reducible refine Only.alloc ?_ _ | ((with_reducible refine Only.setCell ?_ ?_ _); rotate_left; (focus (first | (left; simp; done) | (right; simp; done) | (right; simp; omega) | (right; omega))))))
  · obtain rfl : at_ = bs.length := by omega
    have hne : ((bs.length : Int) == (bs.length : Int)) = true := by simp
    rw [List.getElem?_eq_none (Nat.le_refl _)]
    clear hcell
    go_enter Try.func37, Try.ntmps37
    go_wp2
    refine Lex.wp_region_text (by kernel_rfl) (by kernel_rfl) ?_
    go_wp2
    refine Lex.sq_done (by rfl) ?_
    go_wp2_with fail
    refine (fail_ok _ _ _).mono ?_
    rintro e w1 ⟨rfl, rfl⟩
    go_wp2
    exact ⟨rfl, rfl, (Only.refl _ _).drew⟩
/-- Room is taken. -/
def CountPost (w : World) (F : Nat → Prop) (r : Nat) (bs : List Nat) (s : Value) (at_ : Nat) (room p : Int) (e : Ending) (w' : World) : Prop :=
  if room < 0 then e = .panicked [{ v := wrongV p 3, recovered := false }] ∧ Only [r] w w' else e = .returned (.tuple #[]) ∧ PS w' F r bs s at_ room ∧ Only [r] w w'
set_option maxRecDepth 100000 in
theorem count_ok {w : World} {F : Nat → Prop} {r : Nat} {bs : List Nat} {s : Value} {at_ : Nat} {room : Int} (h : PS w F r bs s at_ room) (n p : Int) (h0 : 0 ≤ room) (h1 : room ≤ 65536) (hn0 : 0 ≤ n) (hn : n ≤ 2 ^ 48) :
    Calls Try.prog 49 #[.pointer (some ⟨r, 0, none⟩), iv n, iv p] w (CountPost w F r bs s at_ (room - n) p) := by
  have H := Lib.hid h
  obtain ⟨hc, hf, hlt⟩ := h.blk.facts
  have x2 := hc 2
  have f2 := hf 2
  simp at x2
  have hle := h.le
  clear hc hf h
  have hb1 := Lib.hid (show Blk (w.setCell ⟨r, 2, none⟩ (.int .i64 (room - n))) r 59 #[s, iv at_, iv (room - n)] from H.out.blk.set_ 2 _)
  unfold CountPost
  by_cases hk : room - n < 0
  · simp only [if_pos hk]
    go_enter Try.func49, Try.ntmps49
    go_wp2_with fail
    refine (fail_ok _ _ _).mono ?_
    rintro e w1 ⟨rfl, rfl⟩
    go_wp2
    refine ⟨rfl, rfl, ?_⟩
    (repeat (first | with_reducible exact Only.refl _ _ | with_reducible exact Only.refl _ _ | with_reducible refine Only.drew ?_ | with_reducible refine Only.drewN ?_ _ | with_reducible refine Only.alloc ?_ _ | ((with_reducible refine Only.setCell ?_ ?_ _); rotate_left; (focus (first | (left; simp; done) | (right; simp; done) | (right; simp; omega) | (right; omega))))))
  · simp only [if_neg hk]
    go_enter Try.func49, Try.ntmps49
    go_wp2
    refine bodyPost_end (results_none rfl _ _ _) rfl ⟨rfl, H.out.put hb1.out ?_ hle, ?_⟩
    · (repeat (first | with_reducible exact Only.refl _ _ | with_reducible exact Only.refl _ _ | with_reducible refine Only.drew ?_ | with_reducible refine Only.drewN ?_ _ | with_reducible refine Only.alloc ?_ _ | ((with_reducible refine Only.setCell ?_ ?_ _); rotate_left; (focus (first | (left; simp; done) | (right; simp; done) | (right; simp; omega) | (right; omega))))))
    · (repeat (first | with_reducible exact Only.refl _ _ | with_reducible exact Only.refl _ _ | with_reducible refine Only.drew ?_ | with_reducible refine Only.drewN ?_ _ | with_reducible refine Only.alloc ?_ _ | ((with_reducible refine Only.setCell ?_ ?_ _); rotate_left; (focus (first | (left; simp; done) | (right; simp; done) | (right; simp; omega) | (right; omega))))))
/-- A number's bytes, the highest first. -/
def num (bs : List Nat) : Nat := bs.foldl (fun n c => n * 256 + c) 0
theorem num_snoc (l : List Nat) (c : Nat) : num (l ++ [c]) = num l * 256 + c := by simp [num]
theorem num_lt : ∀ (n : Nat) (l : List Nat), l.length = n → (∀ c ∈ l, c < 256) → num l < 256 ^ n := by
  intro n
  induction n with
  | zero =>
    intro l hl _
    obtain rfl := List.length_eq_zero_iff.1 hl
    exact Nat.one_pos
  | succ n ih =>
    intro l hl hc
    obtain ⟨l', c, rfl⟩ : ∃ l' c, l = l' ++ [c] := ⟨l.dropLast, l.getLast (by intro h; subst h; simp at hl), (List.dropLast_concat_getLast _).symm⟩
    have h1 := ih l' (by simpa using hl) fun x hx => hc x (by simp [hx])
    have h2 := hc c (by simp)
    rw [num_snoc, Nat.pow_succ]
    omega
theorem or_byte {m c : Nat} (hm : m < 72057594037927936) (hc : c < 256) : bits .or .u64 ((m : Int) * 256) (c : Int) = ((m * 256 + c : Nat) : Int) := by
  have e := bits_or_u64_nat (m * 256) c (by omega) (by omega)
  rw [show (((m * 256 : Nat) : Int)) = (m : Int) * 256 from by omega] at e
  rw [e]
  refine congrArg (Nat.cast : Nat → Int) ?_
  have := Nat.two_pow_add_eq_or_of_lt (i := 8) (b := c) hc m
  rw [Nat.mul_comm m 256]
  exact this.symm
def EightPost (w : World) (F : Nat → Prop) (r : Nat) (bs : List Nat) (s : Value) (at_ : Nat) (room : Int) (e : Ending) (w' : World) : Prop :=
  if at_ + 8 ≤ bs.length then e = .returned (.int .u64 (num ((bs.drop at_).take 8))) ∧ PS w' F r bs s (at_ + 8) room ∧ Only [r] w w'
  else e = .panicked [{ v := wrongV bs.length 2, recovered := false }] ∧ Only [r] w w'
set_option maxRecDepth 100000 in
theorem eight_ok {w : World} {F : Nat → Prop} {r : Nat} {bs : List Nat} {s : Value} {at_ : Nat} {room : Int} (h : PS w F r bs s at_ room) : Calls Try.prog 50 #[.pointer (some ⟨r, 0, none⟩)] w (EightPost w F r bs s at_ room) := by
  have H := Lib.hid h
  have HBB := Lib.hid (show ∀ c ∈ bs, c < 256 by obtain ⟨_, _, _, _, _, hb, _⟩ := h.bytes; exact hb)
  have hle := h.le
  clear h
  have HP := Lib.hid (show EightPost w F r bs s at_ room = EightPost w F r bs s at_ room from rfl)
  go_enter Try.func50, Try.ntmps50
  go_wp2
  go_loopw [3, 4] (fun n z wr => ∃ k : Nat, k ≤ 8 ∧ at_ + k ≤ bs.length ∧ z = .int .i64 k ∧ n = .int .u64 (num ((bs.drop at_).take k)) ∧ Hid (PS wr F r bs s (at_ + k) room) ∧ Hid (Only [r] w wr)) (fun _ z _ => 8 - (intOf z).toNat)
  case atStart => exact ⟨0, by omega, by omega, rfl, rfl, H, Lib.hid (Only.refl _ _)⟩
  case round =>
    obtain ⟨k, hk, hkl, rfl, rfl, HS, HO⟩ := hrel
    have hlt := num_lt _ ((bs.drop at_).take k) rfl fun c hc => HBB.out c (List.mem_of_mem_drop (List.mem_of_mem_take hc))
    have hlen : ((bs.drop at_).take k).length = k := by simp; omega
    rw [hlen] at hlt
    by_cases h8 : k < 8
    · have h8z : (k : Int) < 8 := by omega
      have HN := Lib.hid (next_ok HS.out)
      have hnum : num ((bs.drop at_).take k) < 72057594037927936 := Nat.lt_of_lt_of_le hlt (by
        have : 256 ^ k ≤ 256 ^ 7 := Nat.pow_le_pow_right (by omega) (by omega)
        exact this)
      clear hlt hlen
      have HE := Lib.hid (fun (hh : at_ + k < bs.length) => show num ((bs.drop at_).take (k + 1)) = num ((bs.drop at_).take k) * 256 + bs[at_ + k] by
        rw [List.take_succ_eq_append_getElem (by simp; omega), num_snoc]; simp)
      generalize num ((bs.drop at_).take k) = m at *
      go_wp2_with fail
      refine HN.out.mono ?_
      clear HN
      intro e w2 hn
      unfold NextPost at hn
      by_cases hkb : at_ + k < bs.length
      · have hc := HBB.out bs[at_ + k] (List.getElem_mem hkb)
        rw [List.getElem?_eq_getElem hkb] at hn
        obtain ⟨rfl, hp, ho⟩ := hn
        have HN2 := Lib.hid (And.intro hp (HO.out.trans ho))
        clear hp ho
        generalize hce : bs[at_ + k] = c at *
        have HCE := Lib.hid hce
        clear hce
        have hor := Lib.hid (or_byte hnum hc)
        go_wp2
        go_roundw
        case measure => simp [intOf]; omega
        case rel =>
          refine ⟨k + 1, by omega, by omega, by go_num, ?_, Lib.hid (by rw [← Nat.add_assoc]; exact HN2.out.1), Lib.hid HN2.out.2⟩
          rw [HE.out hkb, HCE.out]
          exact congrArg (Value.int .u64) hor.out
      · rw [List.getElem?_eq_none (by omega)] at hn
        obtain ⟨rfl, ho⟩ := hn
        have HO2 := Lib.hid (HO.out.trans ho)
        clear ho
        go_wp2
        refine ⟨rfl, ?_⟩
        unfold EightPost
        rw [if_neg (by omega)]
        exact ⟨rfl, HO2.out⟩
    · obtain rfl : k = 8 := by omega
      go_wp2
      refine bodyPost_ret (results_tmp rfl _ _ _) rfl ?_
      unfold EightPost
      rw [if_pos hkl]
      exact ⟨rfl, HS.out, HO.out⟩
end Go.Proofs.Ytffdfegelgpniaa
