/-
  Clock: Go, Jump.
-/
import Derived.Test.YtjnhplgdbdneiaaDi
set_option linter.unusedSimpArgs false
set_option linter.unusedVariables false
namespace Go.Proofs.Ytjnhplgdbdneiaa
open Go.RowKit Go.Fl

theorem info3 : (Try.prog.info? 3).map (fun i => (i.zero, i.size, i.bytes)) = some (some (iv 0), 1, 8) := by kernel_rfl
def sliceLen : Value → Nat
  | .slice _ n _ => n
  | _ => 0
/-- The numbers of timers. -/
def idc (A : List Tm) : List Value := A.map fun x => iv x.1
/-- Timers have gone off: A of them; B are left. -/
structure GR (w wr : World) (r t : Nat) (last : Int) (L : List Tm) (s : Value) (A B m : List Tm) (s' z : Value) : Prop where
  eq : L = A ++ B
  le : ∀ x ∈ A, x.2 ≤ t
  rel : Rel m B
  ck : CK wr r t last m s'
  gw : GW w r s wr s'
  sl : Sl wr 3 1 z A.length (idc A)
  fresh : ∀ g, z.ownBlock = some g → w.heap.size ≤ g
/-- What Go answers, and leaves. -/
def GoPost (w : World) (r now d : Nat) (last : Int) (L : List Tm) (s : Value) (e : Ending) (w' : World) : Prop :=
  if plB d = true ∧ now ≤ plV d ∧ plV d ≠ 9218868437227405312 then
    ∃ A B m s' z, e = .returned (.tuple #[z, iv 0]) ∧ GR w w' r (plV d) last L s A B m s' z ∧ ∀ x ∈ B.head?, plV d < x.2
  else e = .returned (.tuple #[.slice none 0 0, iv 1]) ∧ w' = w
theorem sl_ty {w : World} {e size n : Nat} {v : Value} {xs : List Value} (h : Sl w e size v n xs) {g : Nat} (hg : v.ownBlock = some g) : ∃ cur, Blk w g e cur := by
  rcases h.2 with ⟨rfl, _⟩ | ⟨g', off, cap, cur, rfl, hh, _⟩
  · cases hg
  · injection hg with hg
    subst hg
    exact ⟨cur, hh⟩
theorem sl_one3 {w : World} {g : Nat} {a : Value} (h : Blk w g 3 #[a]) : Sl w 3 1 (.slice (some ⟨g, 0, none⟩) 1 1) 1 [a] :=
  ⟨rfl, .inr ⟨g, 0, 1, _, rfl, h, Nat.le_refl _, by decide, Nat.le_refl _, rfl⟩⟩
theorem CK.keepT {w w' : World} {r now : Nat} {last : Int} {l : List Tm} {s : Value} (h : CK w r now last l s) (hk : ∀ g t cur, Blk w g t cur → t = 60 ∨ t = 70 → w'.heap[g]? = w.heap[g]?) : CK w' r now last l s :=
  ⟨(hk r 60 _ h.blk (.inl rfl)).trans h.blk, h.sl.keep fun g hg => by
    obtain ⟨cur, hb⟩ := sl_ty h.sl hg
    exact hk g 70 cur hb (.inr rfl), h.le⟩
theorem idc_append (A B : List Tm) : idc (A ++ B) = idc A ++ idc B := by simp [idc]
/-- The first one's number is told; then it goes. -/
theorem GR.step1 {w wr w4 : World} {r t : Nat} {last : Int} {L A B' m : List Tm} {b : Tm} {s : Value} {g off N cap : Nat} {z b2 : Value} (h : GR w wr r t last L s A (b :: B') m (.slice (some ⟨g, off, none⟩) N cap) z)
    (hS : Sl w4 3 1 b2 (A.length + 1) (idc A ++ [iv b.1])) (hg : (wr.alloc (.cells #[iv b.1] 3)).grownBy w4 z.ownBlock) (hat : b2.ownBlock = z.ownBlock ∨ b2.ownBlock = some (wr.heap.size + 1)) :
    CK w4 r t last m (.slice (some ⟨g, off, none⟩) N cap) ∧ ∀ (w5 : World) (n cap2 : Nat), CK w5 r t last ((hrot0 m).take (m.length - 1)) (.slice (some ⟨g, off, none⟩) n cap2) → Only [r, g] w4 w5 → b.2 ≤ t →
      GR w w5 r t last L s (A ++ [b]) B' ((hrot0 m).take (m.length - 1)) (.slice (some ⟨g, off, none⟩) n cap2) b2 := by
  have hk : ∀ g' t' cur, Blk wr g' t' cur → t' ≠ 3 → w4.heap[g']? = wr.heap[g']? := fun g' t' cur hb ht => by
    have h1 := hg.block g' (hb.alloc (.cells #[iv b.1] 3)).lt fun e => by
      obtain ⟨cur2, hb2⟩ := sl_ty h.sl e.symm
      exact Blk.ne_ hb hb2 ht rfl
    exact h1.trans (Below.heap_alloc wr _ g' hb.lt)
  have hc4 := h.ck.keepT fun g' t' cur hb ht => hk g' t' cur hb (by rcases ht with rfl | rfl <;> decide)
  refine ⟨hc4, fun w5 n cap2 hc5 ho hbt => ⟨?_, ?_, h.rel.pop, hc5, ⟨?_, fun g' hg' => ?_⟩, ?_, fun g' hg' => ?_⟩⟩
  · rw [h.eq]; simp
  · intro x hx
    rcases List.mem_append.1 hx with hx | hx
    · exact h.le x hx
    · rw [List.mem_singleton.1 hx]; exact hbt
  · have h4 : Only (r :: s.ownBlock.toList) w w4 := (h.gw.only.alloc _).grown hg fun k hk2 => .inr (h.fresh k hk2)
    refine h4.trans' ho fun i hi => ?_
    rcases List.mem_cons.1 hi with e | hi
    · exact .inl (by simp [e])
    · have e : i = g := by simpa using hi
      subst e
      rcases h.gw.own i rfl with e | e
      · exact .inl (by simp [e])
      · exact .inr e
  · exact h.gw.own g' (by simpa [Value.ownBlock] using hg')
  · rw [List.length_append, idc_append]
    refine hS.only ho fun g' hg' hm => ?_
    obtain ⟨cur, hb3⟩ := sl_ty hS hg'
    rcases List.mem_cons.1 hm with e | hm
    · exact Blk.ne_ hb3 hc4.blk (by decide) e
    · obtain ⟨cur2, hb4⟩ := sl_ty hc4.sl (g := g) rfl
      exact Blk.ne_ hb3 hb4 (by decide) (by simpa using hm)
  · rcases hat with e | e
    · exact h.fresh g' (e ▸ hg')
    · rw [e] at hg'
      injection hg' with hg'
      have := h.gw.only.size
      rw [← hg']
      omega
set_option maxRecDepth 100000 in
set_option maxHeartbeats 6400000 in
theorem go12 (w : World) {r now d : Nat} {last : Int} {l L : List Tm} {s : Value} (h : CK w r now last l s) (hr : Rel l L) (hn : now < 9218868437227405312) (hd : d < 18446744073709551616) (hlen : l.length ≤ 1048576) :
    Calls Try.prog 12 #[cp r, fv d] w (GoPost w r now d last L s) := by
  obtain ⟨j3, si, sz0, sz1, sz2⟩ := info_parts info3
  have HP := Lib.hid (plain27 w d)
  have HT := Lib.hid (there_ck h)
  have H := Lib.hid h
  have HR := Lib.hid hr
  have HN := Lib.hid hn
  have HD := Lib.hid hd
  have HLL := Lib.hid hlen
  have x1 := h.blk.cell 1
  have x3 := h.blk.cell 3
  have xf := h.blk.frozen
  have xl := h.blk.lt
  simp at x1 x3
  have HI := Lib.hid (inf11 w (plV d) (plV_lt hd))
  clear h hn hd hr hlen
  cases hb : plB d
  · have HF := Lib.hid hb
    rw [hb] at HP
    clear hb
    go_enter Try.func12, Try.ntmps12
    go_wp2_with fail
    refine HP.out.mono ?_
    rintro e w1 ⟨rfl, rfl⟩
    go_wp2_with fail
    refine HT.out.mono ?_
    rintro e w1 ⟨rfl, rfl⟩
    go_wp2
    exact bodyPost_ret (results2 rfl (res_tmp rfl) (res_tmp rfl)) rfl (by unfold GoPost; rw [HF.out, if_neg (by simp)]; exact ⟨rfl, rfl⟩)
  have HF := Lib.hid hb
  rw [hb] at HP
  have HLE := Lib.hid (plB_le HD.out hb).1
  have hlt := ford_lt (rk_le HLE.out).2 (rk_le (Nat.le_of_lt HN.out)).2
  rw [(rk_le HLE.out).1, (rk_le (Nat.le_of_lt HN.out)).1] at hlt
  clear hb
  by_cases hb2 : plV d < now
  · have HF2 := Lib.hid hb2
    rw [decide_eq_true (by omega)] at hlt
    clear hb2
    go_enter Try.func12, Try.ntmps12
    go_wp2_with fail
    refine HP.out.mono ?_
    rintro e w1 ⟨rfl, rfl⟩
    go_wp2_with fail
    refine HT.out.mono ?_
    rintro e w1 ⟨rfl, rfl⟩
    go_wp2
    exact bodyPost_ret (results2 rfl (res_tmp rfl) (res_tmp rfl)) rfl (by unfold GoPost; rw [if_neg (fun hh => by have := HF2.out; omega)]; exact ⟨rfl, rfl⟩)
  rw [decide_eq_false (by omega)] at hlt
  have HF2 := Lib.hid hb2
  clear hb2
  by_cases hi : plV d = 9218868437227405312
  · have HF3 := Lib.hid hi
    rw [decide_eq_true hi] at HI
    clear hi
    go_enter Try.func12, Try.ntmps12
    go_wp2_with fail
    refine HP.out.mono ?_
    rintro e w1 ⟨rfl, rfl⟩
    go_wp2_with fail
    refine HT.out.mono ?_
    rintro e w1 ⟨rfl, rfl⟩
    go_wp2_with fail
    refine HI.out.mono ?_
    rintro e w1 ⟨rfl, rfl⟩
    go_wp2
    exact bodyPost_ret (results2 rfl (res_tmp rfl) (res_tmp rfl)) rfl (by unfold GoPost; rw [if_neg (fun hh => hh.2.2 HF3.out)]; exact ⟨rfl, rfl⟩)
  rw [decide_eq_false hi] at HI
  have HF3 := Lib.hid hi
  clear hi
  have HPOST := Lib.hid (show ∀ e w', (∃ A B m s' z, e = .returned (.tuple #[z, iv 0]) ∧ GR w w' r (plV d) last L s A B m s' z ∧ ∀ x ∈ B.head?, plV d < x.2) → GoPost w r now d last L s e w' from fun e w' hh => by
    unfold GoPost
    rw [if_pos ⟨HF.out, by have := HF2.out; omega, HF3.out⟩]
    exact hh)
  generalize GoPost w r now d last L s = POST at *
  go_enter Try.func12, Try.ntmps12
  go_wp2_with fail
  refine HP.out.mono ?_
  rintro e w1 ⟨rfl, rfl⟩
  clear HP
  go_wp2_with fail
  refine HT.out.mono ?_
  rintro e w1 ⟨rfl, rfl⟩
  clear HT
  go_wp2_with fail
  refine HI.out.mono ?_
  rintro e w1 ⟨rfl, rfl⟩
  clear HI hlt
  generalize plV d = t at *
  have HC2 := Lib.hid (show CK (w1.setCell ⟨r, 1, none⟩ (fv t)) r t last l s from ⟨by have := H.out.blk.set_ 1 (fv t); simpa using this, H.out.sl.far (by have := H.out.ne; simpa using this) _, H.out.le⟩)
  have HO2 := Lib.hid (show GW w1 r s (w1.setCell ⟨r, 1, none⟩ (fv t)) s from ⟨(Only.refl _ _).setCell (.inl (by simp)) _, fun g hg => .inl hg⟩)
  have hsf : ∀ (a : Addr) (b : Nat) (m : Mode) (w : World), (store a (.float .f64 b) m).run Try.prog w = stored Try.prog w a (.float .f64 b) m := fun a b m w => run_store Try.prog w a _ m rfl
  go_wp2
  clear x1 x3 xf xl hsf
  go_loopw [7] (fun z wr => ∃ za zc A B m s', z = .slice za A.length zc ∧ Hid (GR w1 wr r t last L s A B m s' (.slice za A.length zc))) (fun z _ => L.length + 1 - sliceLen z)
  case atStart => exact ⟨none, 0, [], L, l, s, rfl, Lib.hid ⟨rfl, fun x hx => (by cases hx), HR.out, HC2.out, HO2.out, Sl.nil _ _ _, fun g hg => (by cases hg)⟩⟩
  case round =>
    obtain ⟨za, zc, A, B, m, s', rfl, HG⟩ := hrel
    have hgl := HG.out.rel.len
    cases hB : B with
    | nil =>
      subst hB
      obtain rfl : m = [] := List.length_eq_zero_iff.1 hgl
      obtain ⟨sa, sc, rfl, _⟩ := HG.out.ck.sl.shape
      have x3 := HG.out.ck.blk.cell 3
      simp at x3
      go_wp2
      exact HPOST.out _ _ ⟨A, [], [], _, _, rfl, HG.out, fun x hx => by simp at hx⟩
    | cons b B' =>
      subst hB
      obtain ⟨n, hn⟩ : ∃ n, m.length = n + 1 := ⟨B'.length, hgl⟩
      obtain ⟨N, hN⟩ : ∃ N, N = n + 1 := ⟨_, rfl⟩
      obtain ⟨g, off, cap, rfl, _⟩ := HG.out.ck.sl.form (by omega)
      rw [hn, ← hN] at HG
      have hb0 := HG.out.rel.head
      obtain ⟨y0, y1⟩ := TSl.at_ (HG.out.ck.sl' (by omega : m.length = N)) (show 0 < m.length by omega)
      rw [hb0] at y0 y1
      simp only [Nat.zero_mul, Nat.add_zero] at y0 y1
      have x3 := HG.out.ck.blk.cell 3
      simp at x3
      have hNz : (0 : Int) < (N : Int) := by omega
      have hcz : (N : Int) ≤ (cap : Int) := by
        obtain ⟨a, c, e, hc, _⟩ := (HG.out.ck.sl' (by omega : m.length = N)).shape
        injection e with _ _ e
        omega
      have hble : b.2 ≤ 9218868437227405312 := HG.out.ck.le b (HG.out.rel.perm.mem_iff.2 (by simp))
      have h1 := ford_lt (rk_le hble).2 (rk_le HLE.out).2
      have h2 := ford_eq (rk_le hble).2 (rk_le HLE.out).2
      rw [(rk_le hble).1, (rk_le HLE.out).1] at h1 h2
      have HNN := Lib.hid (And.intro hn hN)
      have hAL : A.length ≤ L.length := by rw [HG.out.eq]; simp
      have hml : L.length = A.length + (n + 1) := by rw [HG.out.eq, List.length_append]; have : (b :: B').length = n + 1 := hgl ▸ hn; omega
      have HAL := Lib.hid (And.intro hAL hml)
      have HRL := Lib.hid (HR.out.len)
      clear hgl hn hN hAL hml
      by_cases hgo : b.2 ≤ t
      · have h3 : (FloatKind.f64.format.order b.2 t == some .lt) = true ∨ ((FloatKind.f64.format.order b.2 t == some .lt) = false ∧ (FloatKind.f64.format.order b.2 t == some .eq) = true) := by
          rcases Nat.lt_or_ge b.2 t with h | h
          · exact .inl (h1.trans (decide_eq_true (by omega)))
          · exact .inr ⟨h1.trans (decide_eq_false (by omega)), h2.trans (decide_eq_true (by omega))⟩
        have HGO := Lib.hid hgo
        clear h1 h2 hgo hble
        have HZ := Lib.hid (show (sliceLen (.slice za A.length zc)) = A.length from rfl)
        have HA1 := Lib.hid (HG.out.sl.alloc (.cells #[iv b.1] 3))
        have HNW := Lib.hid (sl_one3 (Blk.new wr 3 #[iv b.1]))
        have HLB := Lib.hid (show A.length + 1 ≤ 1048576 by have := HAL.out; have := HRL.out; have := HLL.out; omega)
        rcases h3 with h1 | ⟨h1, h2⟩
        · skip
          go_wp2_with (at_builtin; refine wpList_append_sls rfl (.tmp 53) (.tmp 61) 34 rfl 3 j3 _ 1 8 Try.underlying34 si sz0 sz1 sz2 rfl (by decide) rfl HA1.out rfl HNW.out (by simp [Value.oneCell']) (by have := HLB.out; unfold maxLen; omega) (by have := HLB.out; omega) ?_)
          intro b2 w4 hS hg hat
          obtain ⟨ba, bc, hb2, _, _⟩ := hS.shape
          subst hb2
          have HSTEP := Lib.hid (GR.step1 HG.out hS hg hat)
          clear hS hg hat HG HA1 HNW x3 y0 y1
          have HQ := Lib.hid (pop31 w4 HSTEP.out.1 (by have := HNN.out; omega) HNN.out.2 (by have := HLB.out; have := HAL.out; have := HRL.out; have := HLL.out; omega))
          go_wp2_with fail
          refine HQ.out.mono ?_
          clear HQ
          rintro e w5 ⟨⟨v5, rfl⟩, hc, ho⟩
          have HG5 := Lib.hid (HSTEP.out.2 w5 _ _ hc ho HGO.out)
          clear hc ho HSTEP
          go_wp2
          go_roundw
          case measure => have := HAL.out; simp [sliceLen]; omega
          case rel =>
            have HG6 := Lib.hid (show GR w1 w5 r t last L s (A ++ [b]) B' _ _ (.slice ba (A ++ [b]).length bc) from by rw [List.length_append]; exact HG5.out)
            exact ⟨ba, bc, A ++ [b], B', _, _, by rw [List.length_append]; rfl, HG6⟩
        · skip
          go_wp2_with (at_builtin; refine wpList_append_sls rfl (.tmp 53) (.tmp 61) 34 rfl 3 j3 _ 1 8 Try.underlying34 si sz0 sz1 sz2 rfl (by decide) rfl HA1.out rfl HNW.out (by simp [Value.oneCell']) (by have := HLB.out; unfold maxLen; omega) (by have := HLB.out; omega) ?_)
          intro b2 w4 hS hg hat
          obtain ⟨ba, bc, hb2, _, _⟩ := hS.shape
          subst hb2
          have HSTEP := Lib.hid (GR.step1 HG.out hS hg hat)
          clear hS hg hat HG HA1 HNW x3 y0 y1
          have HQ := Lib.hid (pop31 w4 HSTEP.out.1 (by have := HNN.out; omega) HNN.out.2 (by have := HLB.out; have := HAL.out; have := HRL.out; have := HLL.out; omega))
          go_wp2_with fail
          refine HQ.out.mono ?_
          clear HQ
          rintro e w5 ⟨⟨v5, rfl⟩, hc, ho⟩
          have HG5 := Lib.hid (HSTEP.out.2 w5 _ _ hc ho HGO.out)
          clear hc ho HSTEP
          go_wp2
          go_roundw
          case measure => have := HAL.out; simp [sliceLen]; omega
          case rel =>
            have HG6 := Lib.hid (show GR w1 w5 r t last L s (A ++ [b]) B' _ _ (.slice ba (A ++ [b]).length bc) from by rw [List.length_append]; exact HG5.out)
            exact ⟨ba, bc, A ++ [b], B', _, _, by rw [List.length_append]; rfl, HG6⟩
      · rw [decide_eq_false (by omega)] at h1 h2
        have HGO := Lib.hid hgo
        clear hgo hble
        go_wp2
        exact HPOST.out _ _ ⟨A, b :: B', m, _, _, rfl, HG.out, fun x hx => by
          have : b = x := by simpa using hx
          subst this
          have := HGO.out
          omega⟩
end Go.Proofs.Ytjnhplgdbdneiaa
