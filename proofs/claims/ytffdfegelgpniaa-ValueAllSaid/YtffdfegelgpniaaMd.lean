/-
  Reading: a byte, room, eight bytes.
-/
import Derived.Test.YtffdfegelgpniaaZVl
import Derived.Laws.IdiomStrings
import Derived.Lib.BufferRead
set_option linter.unusedSimpArgs false
set_option linter.unusedVariables false
set_option linter.unusedSimpArgs false
set_option linter.unusedVariables false
namespace Go.Proofs.Ytffdfegelgpniaa
open Go.RowKit Go.Fl

/-- Bytes in memory. -/
def BytesV (w : World) (F : Nat → Prop) (bs : List Nat) (s : Value) : Prop :=
  ∃ a cap, s = .slice a bs.length cap ∧ bs.length ≤ cap ∧ cap ≤ maxLen ∧ (∀ c ∈ bs, c < 256) ∧ (0 < bs.length → ∃ g off, a = some ⟨g, off, none⟩ ∧ g < w.heap.size ∧ F g ∧ ∀ j (h : j < bs.length), w.cell? ⟨g, off + j, none⟩ = some (bv bs[j]))
theorem BytesV.keep {w w' : World} {F F' : Nat → Prop} {bs : List Nat} {s : Value} (h : BytesV w F bs s) (hs : w.heap.size ≤ w'.heap.size) (hk : ∀ g, F g → g < w.heap.size → w'.heap[g]? = w.heap[g]?) (hF : ∀ g, F g → g < w.heap.size → F' g) : BytesV w' F' bs s := by
  obtain ⟨a, cap, rfl, h1, h2, h3, h4⟩ := h
  refine ⟨a, cap, rfl, h1, h2, h3, fun h0 => ?_⟩
  obtain ⟨g, off, rfl, hg, hf, hc⟩ := h4 h0
  exact ⟨g, off, rfl, Nat.lt_of_lt_of_le hg hs, hF g hf hg, fun j hj => (World.cell?_of_block (w := w) (hk g hf hg)).trans (hc j hj)⟩
theorem BytesV.only {w w' : World} {F : Nat → Prop} {S : List Nat} {bs : List Nat} {s : Value} (h : BytesV w F bs s) (ho : Only S w w') (hF : ∀ g, F g → g ∉ S) : BytesV w' F bs s := h.keep ho.size (fun g hf hg => ho.block g hg (hF g hf)) fun _ h _ => h
/-- A parser in memory. -/
structure PS (w : World) (F : Nat → Prop) (r : Nat) (bs : List Nat) (s : Value) (at_ : Nat) (room : Int) : Prop where
  blk : Blk w r 59 #[s, iv at_, iv room]
  bytes : BytesV w F bs s
  out : ¬ F r
  le : at_ ≤ bs.length
theorem PS.only {w w' : World} {F : Nat → Prop} {r : Nat} {bs : List Nat} {s : Value} {at_ : Nat} {room : Int} (h : PS w F r bs s at_ room) (ho : Only [] w w') : PS w' F r bs s at_ room :=
  ⟨h.blk.only ho (by simp), h.bytes.only ho (fun _ _ => by simp), h.out, h.le⟩
theorem PS.put {w w' : World} {F : Nat → Prop} {r : Nat} {bs : List Nat} {s : Value} {at_ at2 : Nat} {room room2 : Int} (h : PS w F r bs s at_ room) (hb : Blk w' r 59 #[s, iv at2, iv room2]) (ho : Only [r] w w') (hl : at2 ≤ bs.length) : PS w' F r bs s at2 room2 :=
  ⟨hb, h.bytes.only ho (fun g hg hm => h.out (by simp at hm; exact hm ▸ hg)), h.out, hl⟩
theorem PS.strict {w : World} {F : Nat → Prop} {r : Nat} {bs : List Nat} {s : Value} {at_ : Nat} {room : Int} (h : PS w F r bs s at_ room) : PS w (fun g => F g ∧ g < w.heap.size) r bs s at_ room :=
  ⟨h.blk, h.bytes.keep (Nat.le_refl _) (fun _ _ _ => rfl) (fun g hf hg => ⟨hf, hg⟩), fun hh => h.out hh.1, h.le⟩
theorem PS.mono {w : World} {F F' : Nat → Prop} {r : Nat} {bs : List Nat} {s : Value} {at_ : Nat} {room : Int} (h : PS w F r bs s at_ room) (hF : ∀ g, F g → F' g) (hr : ¬ F' r) : PS w F' r bs s at_ room :=
  ⟨h.blk, h.bytes.keep (Nat.le_refl _) (fun _ _ _ => rfl) (fun g hf _ => hF g hf), hr, h.le⟩
theorem PS.grown {w w' : World} {F : Nat → Prop} {r : Nat} {bs : List Nat} {s : Value} {at_ : Nat} {room : Int} {row : Option Nat} (h : PS w F r bs s at_ room) (hg : w.grownBy w' row) (hr : row ≠ some r) (hF : ∀ g, F g → row ≠ some g) : PS w' F r bs s at_ room :=
  ⟨(hg.block r h.blk.lt (fun e => hr e.symm)).trans h.blk, h.bytes.keep hg.size (fun g hf hl => hg.block g hl (fun e => hF g hf e.symm)) (fun g hf _ => hf), h.out, h.le⟩
def wrongV (p e : Int) : Value := .iface 61 (.agg #[iv p, iv e])
theorem fail_ok (w : World) (p e : Int) : Calls Try.prog 48 #[iv p, iv e] w fun x w' => x = .panicked [{ v := wrongV p e, recovered := false }] ∧ w' = w := by
  go_enter Try.func48, Try.ntmps48
  go_wp2
  exact ⟨rfl, rfl, rfl⟩
def NextPost (w : World) (F : Nat → Prop) (r : Nat) (bs : List Nat) (s : Value) (at_ : Nat) (room : Int) (e : Ending) (w' : World) : Prop :=
  match bs[at_]? with
  | some c => e = .returned (bv c) ∧ PS w' F r bs s (at_ + 1) room ∧ Only [r] w w'
  | none => e = .panicked [{ v := wrongV bs.length 2, recovered := false }] ∧ Only [r] w w'
set_option maxRecDepth 100000 in
theorem next_ok {w : World} {F : Nat → Prop} {r : Nat} {bs : List Nat} {s : Value} {at_ : Nat} {room : Int} (h : PS w F r bs s at_ room) : Calls Try.prog 37 #[.pointer (some ⟨r, 0, none⟩)] w (NextPost w F r bs s at_ room) := by
  have H := Lib.hid h
  obtain ⟨a, cap, hs, hl, hm, hbb, hcell⟩ := h.bytes
  subst hs
  have hlm : bs.length ≤ maxLen := by omega
  unfold maxLen at hlm
  obtain ⟨hc, hf, hlt⟩ := h.blk.facts
  have x0 := hc 0
  have x1 := hc 1
  have f1 := hf 1
  simp at x0 x1
  have hle := h.le
  clear hc hf h
  unfold NextPost
  by_cases hk : at_ < bs.length
  · have hkz : (at_ : Int) < (bs.length : Int) := by omega
    have hne : ((at_ : Int) == (bs.length : Int)) = false := by rw [beq_eq_false_iff_ne]; omega
    rw [List.getElem?_eq_getElem hk]
    obtain ⟨g, off, rfl, hg, hF, hcc⟩ := hcell (by omega)
    have hgr : g ≠ r := fun e => H.out.out (e ▸ hF)
    have y0 := hcc at_ hk
    have hb1 := Lib.hid (show Blk (w.drew.setCell ⟨r, 1, none⟩ (.int .i64 (at_ + 1))) r 59 #[.slice (some ⟨g, off, none⟩) bs.length cap, iv (at_ + 1), iv room] from H.out.blk.drew.set_ 1 _)
    have hrg : r ≠ g := fun e => hgr e.symm
    clear hcc hcell
    go_enter Try.func37, Try.ntmps37
    go_wp2
    refine Lex.wp_region_text (by kernel_rfl) (by kernel_rfl) ?_
    go_wp2
    refine Lex.sq_done (by rfl) ?_
    go_wp2
    refine Lex.wp_region_text (by kernel_rfl) (by kernel_rfl) ?_
    go_wp2
    refine Lex.sq_done (by rfl) ?_
    go_wp2
    refine bodyPost_ret (results_tmp rfl _ _ _) rfl ⟨rfl, H.out.put ?_ ?_ (by omega), ?_⟩
    · exact hb1.out
    · (repeat (first | with_reducible exact Only.refl _ _ | with_reducible exact Only.refl _ _ | with_reducible refine Only.drew ?_ | with_reducible refine Only.drewN ?_ _ | with_reducible refine Only.alloc ?_ _ | ((with_reducible refine Only.setCell ?_ ?_ _); rotate_left; (focus (first | (left; simp; done) | (right; simp; done) | (right; simp; omega) | (right; omega))))))
    · (repeat (first | with_reducible exact Only.refl _ _ | with_reducible exact Only.refl _ _ | with_reducible refine Only.drew ?_ | with_reducible refine Only.drewN ?_ _ | with_reducible refine Only.alloc ?_ _ | ((with_reducible refine Only.setCell ?_ ?_ _); rotate_left; (focus (first | (left; simp; done) | (right; simp; done) | (right; simp; omega) | (right; omega))))))
  · obtain rfl : at_ = bs.length := by omega
    have hne : ((bs.length : Int) == (bs.length : Int)) = true := by simp
    rw [List.getElem?_eq_none (Nat.le_refl _)]
    clear hcell
    go_enter Try.func37, Try.ntmps37
    go_wp2
    refine Lex.wp_region_text (by kernel_rfl) (by kernel_rfl) ?_
    go_wp2
    refine Lex.sq_done (by rfl) ?_
    go_wp2_with fail
    refine (fail_ok _ _ _).mono ?_
    rintro e w1 ⟨rfl, rfl⟩
    go_wp2
    exact ⟨rfl, rfl, (Only.refl _ _).drew⟩
/-- Room is taken. -/
def CountPost (w : World) (F : Nat → Prop) (r : Nat) (bs : List Nat) (s : Value) (at_ : Nat) (room p : Int) (e : Ending) (w' : World) : Prop :=
  if room < 0 then e = .panicked [{ v := wrongV p 3, recovered := false }] ∧ Only [r] w w' else e = .returned (.tuple #[]) ∧ PS w' F r bs s at_ room ∧ Only [r] w w'
set_option maxRecDepth 100000 in
theorem count_ok {w : World} {F : Nat → Prop} {r : Nat} {bs : List Nat} {s : Value} {at_ : Nat} {room : Int} (h : PS w F r bs s at_ room) (n p : Int) (h0 : 0 ≤ room) (h1 : room ≤ 65536) (hn0 : 0 ≤ n) (hn : n ≤ 2 ^ 48) :
    Calls Try.prog 49 #[.pointer (some ⟨r, 0, none⟩), iv n, iv p] w (CountPost w F r bs s at_ (room - n) p) := by
  have H := Lib.hid h
  obtain ⟨hc, hf, hlt⟩ := h.blk.facts
  have x2 := hc 2
  have f2 := hf 2
  simp at x2
  have hle := h.le
  clear hc hf h
  have hb1 := Lib.hid (show Blk (w.setCell ⟨r, 2, none⟩ (.int .i64 (room - n))) r 59 #[s, iv at_, iv (room - n)] from H.out.blk.set_ 2 _)
  unfold CountPost
  by_cases hk : room - n < 0
  · simp only [if_pos hk]
    go_enter Try.func49, Try.ntmps49
    go_wp2_with fail
    refine (fail_ok _ _ _).mono ?_
    rintro e w1 ⟨rfl, rfl⟩
    go_wp2
    refine ⟨rfl, rfl, ?_⟩
    (repeat (first | with_reducible exact Only.refl _ _ | with_reducible exact Only.refl _ _ | with_reducible refine Only.drew ?_ | with_reducible refine Only.drewN ?_ _ | with_reducible refine Only.alloc ?_ _ | ((with_reducible refine Only.setCell ?_ ?_ _); rotate_left; (focus (first | (left; simp; done) | (right; simp; done) | (right; simp; omega) | (right; omega))))))
  · simp only [if_neg hk]
    go_enter Try.func49, Try.ntmps49
    go_wp2
    refine bodyPost_end (results_none rfl _ _ _) rfl ⟨rfl, H.out.put hb1.out ?_ hle, ?_⟩
    · (repeat (first | with_reducible exact Only.refl _ _ | with_reducible exact Only.refl _ _ | with_reducible refine Only.drew ?_ | with_reducible refine Only.drewN ?_ _ | with_reducible refine Only.alloc ?_ _ | ((with_reducible refine Only.setCell ?_ ?_ _); rotate_left; (focus (first | (left; simp; done) | (right; simp; done) | (right; simp; omega) | (right; omega))))))
    · (repeat (first | with_reducible exact Only.refl _ _ | with_reducible exact Only.refl _ _ | with_reducible refine Only.drew ?_ | with_reducible refine Only.drewN ?_ _ | with_reducible refine Only.alloc ?_ _ | ((with_reducible refine Only.setCell ?_ ?_ _); rotate_left; (focus (first | (left; simp; done) | (right; simp; done) | (right; simp; omega) | (right; omega))))))
/-- A number's bytes, the highest first. -/
def num (bs : List Nat) : Nat := bs.foldl (fun n c => n * 256 + c) 0
theorem num_snoc (l : List Nat) (c : Nat) : num (l ++ [c]) = num l * 256 + c := by simp [num]
theorem num_lt : ∀ (n : Nat) (l : List Nat), l.length = n → (∀ c ∈ l, c < 256) → num l < 256 ^ n := by
  intro n
  induction n with
  | zero =>
    intro l hl _
    obtain rfl := List.length_eq_zero_iff.1 hl
    exact Nat.one_pos
  | succ n ih =>
    intro l hl hc
    obtain ⟨l', c, rfl⟩ : ∃ l' c, l = l' ++ [c] := ⟨l.dropLast, l.getLast (by intro h; subst h; simp at hl), (List.dropLast_concat_getLast _).symm⟩
    have h1 := ih l' (by simpa using hl) fun x hx => hc x (by simp [hx])
    have h2 := hc c (by simp)
    rw [num_snoc, Nat.pow_succ]
    omega
theorem or_byte {m c : Nat} (hm : m < 72057594037927936) (hc : c < 256) : bits .or .u64 ((m : Int) * 256) (c : Int) = ((m * 256 + c : Nat) : Int) := by
  have e := bits_or_u64_nat (m * 256) c (by omega) (by omega)
  rw [show (((m * 256 : Nat) : Int)) = (m : Int) * 256 from by omega] at e
  rw [e]
  refine congrArg (Nat.cast : Nat → Int) ?_
  have := Nat.two_pow_add_eq_or_of_lt (i := 8) (b := c) hc m
  rw [Nat.mul_comm m 256]
  exact this.symm
def EightPost (w : World) (F : Nat → Prop) (r : Nat) (bs : List Nat) (s : Value) (at_ : Nat) (room : Int) (e : Ending) (w' : World) : Prop :=
  if at_ + 8 ≤ bs.length then e = .returned (.int .u64 (num ((bs.drop at_).take 8))) ∧ PS w' F r bs s (at_ + 8) room ∧ Only [r] w w'
  else e = .panicked [{ v := wrongV bs.length 2, recovered := false }] ∧ Only [r] w w'
set_option maxRecDepth 100000 in
theorem eight_ok {w : World} {F : Nat → Prop} {r : Nat} {bs : List Nat} {s : Value} {at_ : Nat} {room : Int} (h : PS w F r bs s at_ room) : Calls Try.prog 50 #[.pointer (some ⟨r, 0, none⟩)] w (EightPost w F r bs s at_ room) := by
  have H := Lib.hid h
  have HBB := Lib.hid (show ∀ c ∈ bs, c < 256 by obtain ⟨_, _, _, _, _, hb, _⟩ := h.bytes; exact hb)
  have hle := h.le
  clear h
  have HP := Lib.hid (show EightPost w F r bs s at_ room = EightPost w F r bs s at_ room from rfl)
  go_enter Try.func50, Try.ntmps50
  go_wp2
  go_loopw [3, 4] (fun n z wr => ∃ k : Nat, k ≤ 8 ∧ at_ + k ≤ bs.length ∧ z = .int .i64 k ∧ n = .int .u64 (num ((bs.drop at_).take k)) ∧ Hid (PS wr F r bs s (at_ + k) room) ∧ Hid (Only [r] w wr)) (fun _ z _ => 8 - (intOf z).toNat)
  case atStart => exact ⟨0, by omega, by omega, rfl, rfl, H, Lib.hid (Only.refl _ _)⟩
  case round =>
    obtain ⟨k, hk, hkl, rfl, rfl, HS, HO⟩ := hrel
    have hlt := num_lt _ ((bs.drop at_).take k) rfl fun c hc => HBB.out c (List.mem_of_mem_drop (List.mem_of_mem_take hc))
    have hlen : ((bs.drop at_).take k).length = k := by simp; omega
    rw [hlen] at hlt
    by_cases h8 : k < 8
    · have h8z : (k : Int) < 8 := by omega
      have HN := Lib.hid (next_ok HS.out)
      have hnum : num ((bs.drop at_).take k) < 72057594037927936 := Nat.lt_of_lt_of_le hlt (by
        have : 256 ^ k ≤ 256 ^ 7 := Nat.pow_le_pow_right (by omega) (by omega)
        exact this)
      clear hlt hlen
      have HE := Lib.hid (fun (hh : at_ + k < bs.length) => show num ((bs.drop at_).take (k + 1)) = num ((bs.drop at_).take k) * 256 + bs[at_ + k] by
        rw [List.take_succ_eq_append_getElem (by simp; omega), num_snoc]; simp)
      generalize num ((bs.drop at_).take k) = m at *
      go_wp2_with fail
      refine HN.out.mono ?_
      clear HN
      intro e w2 hn
      unfold NextPost at hn
      by_cases hkb : at_ + k < bs.length
      · have hc := HBB.out bs[at_ + k] (List.getElem_mem hkb)
        rw [List.getElem?_eq_getElem hkb] at hn
        obtain ⟨rfl, hp, ho⟩ := hn
        have HN2 := Lib.hid (And.intro hp (HO.out.trans ho))
        clear hp ho
        generalize hce : bs[at_ + k] = c at *
        have HCE := Lib.hid hce
        clear hce
        have hor := Lib.hid (or_byte hnum hc)
        go_wp2
        go_roundw
        case measure => simp [intOf]; omega
        case rel =>
          refine ⟨k + 1, by omega, by omega, by go_num, ?_, Lib.hid (by rw [← Nat.add_assoc]; exact HN2.out.1), Lib.hid HN2.out.2⟩
          rw [HE.out hkb, HCE.out]
          exact congrArg (Value.int .u64) hor.out
      · rw [List.getElem?_eq_none (by omega)] at hn
        obtain ⟨rfl, ho⟩ := hn
        have HO2 := Lib.hid (HO.out.trans ho)
        clear ho
        go_wp2
        refine ⟨rfl, ?_⟩
        unfold EightPost
        rw [if_neg (by omega)]
        exact ⟨rfl, HO2.out⟩
    · obtain rfl : k = 8 := by omega
      go_wp2
      refine bodyPost_ret (results_tmp rfl _ _ _) rfl ?_
      unfold EightPost
      rw [if_pos hkl]
      exact ⟨rfl, HS.out, HO.out⟩
end Go.Proofs.Ytffdfegelgpniaa
/-
  Reading: a text.
-/
set_option linter.unusedSimpArgs false
set_option linter.unusedVariables false
namespace Go.Proofs.Ytffdfegelgpniaa
open Go.RowKit Go.Fl

/-- How a text's bytes end. -/
inductive TR where
  | done (t : List Nat) (pos : Nat)
  | short
  | form (pos : Nat)
def ptext : List Nat → Nat → List Nat → TR
  | [], _, _ => .short
  | c :: l, pos, acc =>
    if c = 0 then
      match l with
      | [] => .short
      | d :: l => if d = 1 then .done acc (pos + 2) else if d = 255 then ptext l (pos + 2) (acc ++ [0]) else .form (pos + 1)
    else ptext l (pos + 1) (acc ++ [c])
theorem ptext_ne {c : Nat} {l : List Nat} {pos : Nat} {acc : List Nat} (h : c ≠ 0) : ptext (c :: l) pos acc = ptext l (pos + 1) (acc ++ [c]) := by
  rw [ptext.eq_def]
  simp only [if_neg h]
def strB (t : List Nat) : ByteArray := ⟨(t.map UInt8.ofNat).toArray⟩
theorem conv_sl {w : World} {v : Value} {n : Nat} {t : List Nat} (h : Sl w 5 1 v n (t.map bv)) (ht : ∀ c ∈ t, c < 256) : (convert 28 9 v).run Try.prog w = .ok (.string (strB t)) w := by
  have hl : t.length = n := by have := h.len; simpa using this
  subst hl
  by_cases h0 : 0 < t.length
  · obtain ⟨g, off, cap, rfl, _, _, _, hc, _⟩ := h.form h0
    have := run_convert_bytes_back (P := Try.prog) w 28 9 5 ⟨g, off, none⟩ cap (t.map UInt8.ofNat) Try.underlying28 Try.underlying5 Try.underlying9 (fun j hj => by
      have hj' : j < t.length := by simpa using hj
      rw [Addr.add_lit, hc j (by omega)]
      simp only [List.getElem?_map, List.getElem?_eq_getElem hj', Option.map_some, List.getElem_map]
      rw [UInt8.toNat_ofNat_of_lt' (ht _ (List.getElem_mem hj'))])
    simpa [strB] using this
  · obtain rfl : t = [] := List.eq_nil_of_length_eq_zero (by omega)
    rcases h.2 with ⟨rfl, _⟩ | ⟨g, off, cap, cur, rfl, hh, _⟩
    · exact Lib.run_convert_nil_bytes w 28 9 5 0 Try.underlying28 Try.underlying5 Try.underlying9
    · exact run_convert_bytes_back (P := Try.prog) w 28 9 5 ⟨g, off, none⟩ cap [] Try.underlying28 Try.underlying5 Try.underlying9 (fun j hj => absurd hj (Nat.not_lt_zero _))
def atOf (w : World) (r : Nat) : Nat := (intOf ((w.cell? ⟨r, 1, none⟩).getD undef)).toNat
theorem PS.at_of {w : World} {F : Nat → Prop} {r : Nat} {bs : List Nat} {s : Value} {at_ : Nat} {room : Int} (h : PS w F r bs s at_ room) : atOf w r = at_ := by
  unfold atOf
  rw [h.blk.cell 1]
  simp [intOf]
/-- A value's cells, as a function answers them. -/
def cellsOfText (t : List Nat) : Value := .agg #[iv 5, iv 0, fv 0, .string (strB t), .slice none 0 0]
def TextPost (w : World) (F : Nat → Prop) (r : Nat) (bs : List Nat) (s : Value) (p room : Int) (res : TR) (e : Ending) (w' : World) : Prop :=
  match res with
  | .short => e = .panicked [{ v := wrongV bs.length 2, recovered := false }] ∧ Only [r] w w'
  | .form q => e = .panicked [{ v := wrongV q 4, recovered := false }] ∧ Only [r] w w'
  | .done t q => if room - (1 + (t.length : Int)) < 0 then e = .panicked [{ v := wrongV p 3, recovered := false }] ∧ Only [r] w w'
    else e = .returned (cellsOfText t) ∧ PS w' F r bs s q (room - (1 + (t.length : Int))) ∧ Only [r] w w'
structure TxR (w wr : World) (F : Nat → Prop) (r : Nat) (bs : List Nat) (s : Value) (room : Int) (at_ pos : Nat) (acc : List Nat) (v : Value) : Prop where
  byte : ∀ c ∈ acc, c < 256
  len : acc.length ≤ pos
  eq : ptext (bs.drop at_) at_ [] = ptext (bs.drop pos) pos acc
  sl : Sl wr 5 1 v acc.length (acc.map bv)
  own : ∀ g, v.ownBlock = some g → w.heap.size + 1 ≤ g
  ps : PS wr F r bs s pos room
  only : Only [r] w wr
  blk : Blk wr w.heap.size 33 #[iv 0, iv 0, fv 0, .string ⟨#[]⟩, .slice none 0 0]
theorem TxR.next {w wr w2 : World} {F : Nat → Prop} {r : Nat} {bs : List Nat} {s : Value} {room : Int} {at_ pos pos2 : Nat} {acc : List Nat} {v : Value} (h : TxR w wr F r bs s room at_ pos acc v) (hr : r < w.heap.size) (hp : PS w2 F r bs s pos2 room) (ho : Only [r] wr w2) :
    Sl w2 5 1 v acc.length (acc.map bv) ∧ PS w2 F r bs s pos2 room ∧ Only [r] w w2 ∧ Blk w2 w.heap.size 33 #[iv 0, iv 0, fv 0, .string ⟨#[]⟩, .slice none 0 0] :=
  ⟨h.sl.only ho (fun g hg hm => by have := h.own g hg; simp at hm; omega), hp, h.only.trans ho, h.blk.only ho (by simp; omega)⟩
set_option maxRecDepth 100000 in
set_option maxHeartbeats 3200000 in
theorem text_ok {w : World} {F : Nat → Prop} {r : Nat} {bs : List Nat} {s : Value} {at_ : Nat} {room : Int} (h : PS w F r bs s at_ room) (p : Int) (h0 : 0 ≤ room) (h1 : room ≤ 65536) (hbl : bs.length ≤ 2 ^ 40) :
    Calls Try.prog 52 #[.pointer (some ⟨r, 0, none⟩), iv p] w (TextPost w F r bs s p room (ptext (bs.drop at_) at_ [])) := by
  obtain ⟨j5, si, sz0, sz1, sz2⟩ := info_parts info5
  have hFr := h.out
  have hst := h.strict
  have HBB := Lib.hid (show ∀ c ∈ bs, c < 256 by obtain ⟨_, _, _, _, _, hb, _⟩ := h.bytes; exact hb)
  have hrl := h.blk.lt
  clear h
  obtain ⟨G, hG⟩ : ∃ G : Nat → Prop, G = fun g => F g ∧ g < w.heap.size := ⟨_, rfl⟩
  rw [← hG] at hst
  have HG := Lib.hid (show ∀ g, G g → F g ∧ g < w.heap.size by rw [hG]; exact fun _ h => h)
  have H := Lib.hid hst
  clear hst hG
  go_enter Try.func52, Try.ntmps52
  go_wp2
  obtain ⟨w0, hw0⟩ : ∃ x : World, x = w.alloc (.cells #[.int .i64 0, .int .i64 0, .float .f64 0, .string ⟨#[]⟩, .slice none 0 0] 33) := ⟨_, rfl⟩
  have HW0 := Lib.hid hw0
  have HR0 := Lib.hid (show TxR w w0 G r bs s room at_ at_ [] (.slice none 0 0) from by
    rw [hw0]
    exact ⟨fun c hc => by (cases hc), Nat.zero_le _, rfl, Sl.nil _ _ _, fun g hg => by (cases hg), H.out.only ((Only.refl _ w).alloc _), (Only.refl _ w).alloc _, Blk.new _ _ _⟩)
  clear hw0
  rw [← HW0.out]
  go_loopw [5] (fun v wr => ∃ (pos : Nat) (acc : List Nat), Hid (TxR w wr G r bs s room at_ pos acc v)) (fun _ wr => bs.length - atOf wr r)
  case atStart => exact ⟨at_, [], HR0⟩
  case round =>
    obtain ⟨pos, acc, HR⟩ := hrel
    obtain ⟨va, vc, hv, _, _⟩ := HR.out.sl.shape
    subst hv
    have hat := HR.out.ps.at_of
    have HAT := Lib.hid hat
    clear hat
    have hlen := HR.out.len
    have hple := HR.out.ps.le
    have HN := Lib.hid (next_ok HR.out.ps)
    go_wp2_with fail
    refine HN.out.mono ?_
    clear HN
    intro e w2 hn
    unfold NextPost at hn
    by_cases hp : pos < bs.length
    · rw [List.getElem?_eq_getElem hp] at hn
      obtain ⟨rfl, hps, ho⟩ := hn
      have HNX := Lib.hid (HR.out.next hrl hps ho)
      have hdr : bs.drop pos = bs[pos] :: bs.drop (pos + 1) := List.drop_eq_getElem_cons hp
      have hcb := HBB.out _ (List.getElem_mem hp)
      have HE := Lib.hid (show ptext (bs.drop at_) at_ [] = ptext (bs[pos] :: bs.drop (pos + 1)) pos acc by rw [HR.out.eq, hdr])
      clear hps ho hdr
      by_cases hz : bs[pos] = 0
      · rw [hz] at HE
        have hz1 : ((bs[pos] : Int) == 0) = true := by rw [hz]; rfl
        rw [hz] at hz1 ⊢
        have HN := Lib.hid (next_ok HNX.out.2.1)
        go_wp2_with fail
        refine HN.out.mono ?_
        clear HN
        intro e w3 hn
        unfold NextPost at hn
        by_cases hp2 : pos + 1 < bs.length
        · rw [List.getElem?_eq_getElem hp2] at hn
          obtain ⟨rfl, hps, ho⟩ := hn
          have HNY := Lib.hid (show Sl w3 5 1 (.slice va acc.length vc) acc.length (acc.map bv) ∧ PS w3 G r bs s (pos + 2) room ∧ Only [r] w w3 ∧ Blk w3 w.heap.size 33 #[iv 0, iv 0, fv 0, .string ⟨#[]⟩, .slice none 0 0] from
            ⟨HNX.out.1.only ho (fun g hg hm => by have := HR.out.own g hg; simp at hm; omega), hps, HNX.out.2.2.1.trans ho, HNX.out.2.2.2.only ho (by simp; omega)⟩)
          have hdr2 : bs.drop (pos + 1) = bs[pos + 1] :: bs.drop (pos + 2) := List.drop_eq_getElem_cons hp2
          rw [hdr2] at HE
          have hdb := HBB.out _ (List.getElem_mem hp2)
          clear hps ho hdr2 HNX
          generalize hde : bs[pos + 1] = d at *
          clear hde
          by_cases d1 : d = 1
          · subst d1
            have HF := Lib.hid (show ptext (bs.drop at_) at_ [] = .done acc (pos + 2) by rw [HE.out]; rfl)
            have HC := Lib.hid (count_ok HNY.out.2.1 (1 + (acc.length : Int)) p h0 h1 (by omega) (by omega))
            clear HE
            go_wp2_with fail
            refine HC.out.mono ?_
            clear HC
            intro e w4 hc
            unfold CountPost at hc
            by_cases hrm : room - (1 + (acc.length : Int)) < 0
            · rw [if_pos hrm] at hc
              obtain ⟨rfl, ho⟩ := hc
              have HO := Lib.hid (HNY.out.2.2.1.trans ho)
              clear ho HNY
              go_wp2
              refine ⟨rfl, ?_⟩
              rw [HF.out]
              show (if _ then _ else _)
              rw [if_pos hrm]
              exact ⟨rfl, HO.out⟩
            · rw [if_neg hrm] at hc
              obtain ⟨rfl, hps, ho⟩ := hc
              have HO := Lib.hid (HNY.out.2.2.1.trans ho)
              have hB := HNY.out.2.2.2.only ho (by simp; omega)
              have hS4 := HNY.out.1.only ho (fun g hg hm => by have := HR.out.own g hg; simp at hm; omega)
              have hcv := conv_sl hS4 HR.out.byte
              have HPS := Lib.hid hps
              clear ho hps hS4 HNY HR
              go_wp2_with (refine wpList_store_blk rfl 33 (.tmp 4) (.tmp 24) rfl [iv 5, iv 0, fv 0, .string (strB acc), .slice none 0 0] rfl rfl hB (by kernel_rfl) (by simp) (by simp [Value.oneCell']) ?_)
              intro w5 hB5 hO5
              clear hcv hB
              have HB5 := Lib.hid hB5
              have HO5 := Lib.hid hO5
              clear hB5 hO5
              go_wp2
              refine bodyPost_ret (results1 rfl (res_blk (cs := [iv 5, iv 0, fv 0, .string (strB acc), .slice none 0 0]) Try.underlying33 (by kernel_rfl) rfl HB5.out)) rfl ?_
              rw [HF.out]
              show (if _ then _ else _)
              rw [if_neg (by omega)]
              refine ⟨rfl, ?_, ?_⟩
              · have h5 : PS w5 G r bs s (pos + 2) (room - (1 + (acc.length : Int))) := ⟨HPS.out.blk.only HO5.out (by simp; omega), HPS.out.bytes.only HO5.out (fun g hg hm => by have := (HG.out g hg).2; simp at hm; omega), HPS.out.out, HPS.out.le⟩
                exact h5.mono (fun g hg => (HG.out g hg).1) hFr
              · exact HO.out.trans' HO5.out (fun i hi => .inr (by simp at hi; omega))
          by_cases d2 : d = 255
          · subst d2
            have HF := Lib.hid (show ptext (bs.drop at_) at_ [] = ptext (bs.drop (pos + 2)) (pos + 2) (acc ++ [0]) by rw [HE.out]; rfl)
            clear HE hz
            go_wp2_with (at_builtin; refine wpList_append_one (news := [bv 0]) rfl (.tmp 33) (.tmp 35) 28 rfl 5 j5 _ 1 1 Try.underlying28 si sz0 sz1 sz2 rfl (by decide) rfl (HNY.out.1.alloc _) rfl (Blk.new _ _ _) rfl (by simp [Value.oneCell']) (by unfold maxLen; omega) (by omega) ?_)
            intro v4 w4 hS hg hat
            have HR3 := Lib.hid (show TxR w w4 G r bs s room at_ (pos + 2) (acc ++ [0]) v4 from by
              refine ⟨fun x hx => ?_, by simp; omega, HF.out, by simpa using hS, fun g hg2 => ?_, (HNY.out.2.1.only ((Only.refl _ _).alloc _)).grown hg ?_ ?_, (HNY.out.2.2.1.alloc _).grown hg fun g hg2 => ?_, ?_⟩
              · rcases List.mem_append.1 hx with hx | hx
                · exact HR.out.byte x hx
                · simp at hx; omega
              · rcases hat with e | e
                · exact HR.out.own g (e ▸ hg2)
                · rw [e] at hg2; injection hg2 with hg2; have := HNY.out.2.2.2.lt; omega
              · intro e; have := HR.out.own r e; omega
              · intro g hgg e; have := HR.out.own g e; have := (HG.out g hgg).2; omega
              · have := HR.out.own g hg2; exact .inr (by omega)
              · exact (hg.block _ (by have := HNY.out.2.2.2.lt; first | omega | (simp; omega)) (fun e => by have := HR.out.own _ e.symm; omega)).trans (HNY.out.2.2.2.alloc _))
            have HM := Lib.hid (show bs.length - atOf w4 r < bs.length - atOf wr r by rw [HR3.out.ps.at_of, HAT.out]; omega)
            clear hS hg hat HNY HR
            go_wp2
            go_roundw
            case measure => exact HM.out
            case rel => exact ⟨pos + 2, acc ++ [0], HR3⟩
          · have q1 : ((d : Int) == 1) = false := by rw [beq_eq_false_iff_ne]; omega
            have q2 : ((d : Int) != 255) = true := by rw [bne_iff_ne]; omega
            have HF := Lib.hid (show ptext (bs.drop at_) at_ [] = .form (pos + 1) by rw [HE.out]; simp only [ptext, if_neg d1, if_neg d2, if_true])
            have x1 := HNY.out.2.1.blk.cell 1
            simp at x1
            clear HE
            go_wp2_with fail
            refine (fail_ok _ _ _).mono ?_
            rintro e w5 ⟨rfl, rfl⟩
            go_wp2
            refine ⟨rfl, ?_⟩
            rw [HF.out]
            refine ⟨?_, HNY.out.2.2.1⟩
            exact congrArg (fun z => Ending.panicked [{ v := wrongV z 4, recovered := false }]) (by omega)
        · rw [List.getElem?_eq_none (by omega)] at hn
          obtain ⟨rfl, ho⟩ := hn
          have HO := Lib.hid (HNX.out.2.2.1.trans ho)
          have HF := Lib.hid (show ptext (bs.drop at_) at_ [] = .short by rw [HE.out, List.drop_eq_nil_of_le (by omega)]; rfl)
          clear ho HNX
          go_wp2
          refine ⟨rfl, ?_⟩
          rw [HF.out]
          exact ⟨rfl, HO.out⟩
      · have hz1 : ((bs[pos] : Int) == 0) = false := by rw [beq_eq_false_iff_ne]; omega
        have HF := Lib.hid (show ptext (bs.drop at_) at_ [] = ptext (bs.drop (pos + 1)) (pos + 1) (acc ++ [bs[pos]]) by rw [HE.out, ptext_ne hz])
        generalize hce : bs[pos] = c at *
        clear hce HE hz
        go_wp2_with (at_builtin; refine wpList_append_one (news := [bv c]) rfl (.tmp 33) (.tmp 35) 28 rfl 5 j5 _ 1 1 Try.underlying28 si sz0 sz1 sz2 rfl (by decide) rfl (HNX.out.1.alloc _) rfl (Blk.new _ _ _) rfl (by simp [Value.oneCell']) (by unfold maxLen; omega) (by omega) ?_)
        intro v3 w3 hS hg hat
        have HR3 := Lib.hid (show TxR w w3 G r bs s room at_ (pos + 1) (acc ++ [c]) v3 from by
          refine ⟨fun x hx => ?_, by simp; omega, HF.out, by simpa using hS, fun g hg2 => ?_, (HNX.out.2.1.only ((Only.refl _ _).alloc _)).grown hg ?_ ?_, (HNX.out.2.2.1.alloc _).grown hg fun g hg2 => ?_, ?_⟩
          · rcases List.mem_append.1 hx with hx | hx
            · exact HR.out.byte x hx
            · simp at hx; omega
          · rcases hat with e | e
            · exact HR.out.own g (e ▸ hg2)
            · rw [e] at hg2; injection hg2 with hg2; have := HNX.out.2.2.2.lt; omega
          · intro e; have := HR.out.own r e; omega
          · intro g hgg e; have := HR.out.own g e; have := (HG.out g hgg).2; omega
          · have := HR.out.own g hg2; exact .inr (by omega)
          · exact (hg.block _ (by have := HNX.out.2.2.2.lt; first | omega | (simp; omega)) (fun e => by have := HR.out.own _ e.symm; omega)).trans (HNX.out.2.2.2.alloc _))
        have HM := Lib.hid (show bs.length - atOf w3 r < bs.length - atOf wr r by rw [HR3.out.ps.at_of, HAT.out]; omega)
        clear hS hg hat HNX HR
        go_wp2
        go_roundw
        case measure => exact HM.out
        case rel => exact ⟨pos + 1, acc ++ [c], HR3⟩
    · rw [List.getElem?_eq_none (by omega)] at hn
      obtain ⟨rfl, ho⟩ := hn
      have HO := Lib.hid (HR.out.only.trans ho)
      have HF := Lib.hid (show ptext (bs.drop at_) at_ [] = .short by rw [HR.out.eq, List.drop_eq_nil_of_le (by omega)]; rfl)
      clear ho HR
      go_wp2
      refine ⟨rfl, ?_⟩
      rw [HF.out]
      exact ⟨rfl, HO.out⟩
end Go.Proofs.Ytffdfegelgpniaa
