/-
  Clock: the library's sort of timers, at whatever length: off the shelf (laid in plain words by the kit's own tool).
-/
import Derived.Shelf.SlSortCmp.WholeK
import Derived.Test.YtjnhplgdbdneiaaFa
set_option linter.unusedSimpArgs false
set_option linter.unusedVariables false
namespace Go.Proofs
open Go.Shelf
def Try.sortT_ren : Go.Shelf.Ren := ⟨fun | 6 => 32 | 15 => 46 | 14 => 45 | 28 => 59 | 29 => 60 | 20 => 51 | 21 => 52 | 22 => 53 | 23 => 54 | 24 => 55 | 25 => 56 | 26 => 57 | 27 => 58 | 46 => 63 | 47 => 64 | 48 => 65 | 49 => 66 | 50 => 67 | 57 => 68 | n => n, fun | 22 => 39 | 24 => 70 | 25 => 74 | 3 => 3 | 39 => 90 | 0 => 0 | 53 => 104 | 55 => 23 | 4 => 4 | 46 => 97 | 45 => 96 | 50 => 101 | 5 => 5 | 9 => 9 | 66 => 107 | 70 => 111 | 76 => 113 | 77 => 114 | n => n, fun | n => n⟩
theorem Try.sortT : Go.Proofs.SlLaysF0.n6 Try.prog Try.sortT_ren := {
  mixed := by kernel_rfl
  f6 := ⟨Try.f32.name, by decide, Try.func32.trans (congrArg some (by kernel_rfl))⟩
  f14 := ⟨Try.f45.name, by decide, Try.func45.trans (congrArg some (by kernel_rfl))⟩
  f15 := Try.func46.trans (congrArg some (by kernel_rfl))
  f20 := ⟨Try.f51.name, by decide, Try.func51.trans (congrArg some (by kernel_rfl))⟩
  f21 := ⟨Try.f52.name, by decide, Try.func52.trans (congrArg some (by kernel_rfl))⟩
  f22 := ⟨Try.f53.name, by decide, Try.func53.trans (congrArg some (by kernel_rfl))⟩
  f23 := ⟨Try.f54.name, by decide, Try.func54.trans (congrArg some (by kernel_rfl))⟩
  f24 := ⟨Try.f55.name, by decide, Try.func55.trans (congrArg some (by kernel_rfl))⟩
  f25 := ⟨Try.f56.name, by decide, Try.func56.trans (congrArg some (by kernel_rfl))⟩
  f26 := ⟨Try.f57.name, by decide, Try.func57.trans (congrArg some (by kernel_rfl))⟩
  f27 := ⟨Try.f58.name, by decide, Try.func58.trans (congrArg some (by kernel_rfl))⟩
  f28 := Try.func59.trans (congrArg some (by kernel_rfl))
  f29 := Try.func60.trans (congrArg some (by kernel_rfl))
  f46 := ⟨Try.f63.name, by decide, Try.func63.trans (congrArg some (by kernel_rfl))⟩
  f47 := Try.func64.trans (congrArg some (by kernel_rfl))
  f48 := Try.func65.trans (congrArg some (by kernel_rfl))
  f49 := ⟨Try.f66.name, by decide, Try.func66.trans (congrArg some (by kernel_rfl))⟩
  f50 := ⟨Try.f67.name, by decide, Try.func67.trans (congrArg some (by kernel_rfl))⟩
  f57 := ⟨Try.f68.name, by decide, Try.func68.trans (congrArg some (by kernel_rfl))⟩
  t0 := Try.underlying0
  a0 := Try.isAgg0
  z0 := Try.sizeOf0
  v0 := Try.zeroValue0
  t3 := Try.underlying3
  a3 := Try.isAgg3
  z3 := Try.sizeOf3
  v3 := Try.zeroValue3
  t4 := Try.underlying4
  a4 := Try.isAgg4
  z4 := Try.sizeOf4
  v4 := Try.zeroValue4
  t5 := Try.underlying5
  a5 := Try.isAgg5
  z5 := Try.sizeOf5
  v5 := Try.zeroValue5
  t9 := Try.underlying9
  a9 := Try.isAgg9
  z9 := Try.sizeOf9
  v9 := Try.zeroValue9
  t22 := Try.underlying39
  a22 := Try.isAgg39
  z22 := Try.sizeOf39
  v22 := Try.zeroValue39
  t25 := Try.underlying74
  a25 := Try.isAgg74
  z25 := Try.sizeOf74
  v25 := Try.zeroValue74
  t39 := Try.underlying90
  a39 := Try.isAgg90
  z39 := Try.sizeOf90
  v39 := Try.zeroValue90
  t45 := Try.underlying96
  a45 := Try.isAgg96
  z45 := Try.sizeOf96
  v45 := Try.zeroValue96
  t46 := Try.underlying97
  a46 := Try.isAgg97
  z46 := Try.sizeOf97
  v46 := Try.zeroValue97
  t50 := Try.underlying101
  a50 := Try.isAgg101
  z50 := Try.sizeOf101
  v50 := Try.zeroValue101
  t53 := Try.underlying104
  a53 := Try.isAgg104
  z53 := Try.sizeOf104
  v53 := Try.zeroValue104
  t55 := Try.underlying23
  a55 := Try.isAgg23
  z55 := Try.sizeOf23
  v55 := Try.zeroValue23
  t66 := Try.underlying107
  a66 := Try.isAgg107
  z66 := Try.sizeOf107
  v66 := Try.zeroValue107
  t70 := Try.underlying111
  a70 := Try.isAgg111
  z70 := Try.sizeOf111
  v70 := Try.zeroValue111
  t76 := Try.underlying113
  a76 := Try.isAgg113
  z76 := Try.sizeOf113
  v76 := Try.zeroValue113
  t77 := Try.underlying114
  a77 := Try.isAgg114
  z77 := Try.sizeOf114
  v77 := Try.zeroValue114 }
end Go.Proofs
namespace Go.Proofs.Ytjnhplgdbdneiaa
open Go.RowKit Go.Fl

abbrev TT := { x : Tm // x.2 ≤ 9218868437227405312 }
instance : Inhabited TT := ⟨⟨(0, 0), by decide⟩⟩
def encT (x : TT) : List Value := [iv x.1.1, fv x.1.2]
def cfT (x y : TT) : Int := ordI x.1 y.1
theorem ltT (x y : TT) : ltOf cfT x y = tlt x.1 y.1 := ordI_lt x.1 y.1
theorem swoT : Go.Sort.SWO (ltOf cfT) where
  irrefl x := by rw [ltT]; exact tlt_irr _
  trans x y z h k := by rw [ltT] at *; exact tlt_trans h k
  ntrans x y z h k := by
    rw [ltT] at *
    rw [tlt_not] at *
    omega
theorem World.ext4 {a b : World} (h1 : a.heap = b.heap) (h2 : a.tape = b.tape) (h3 : a.drawn = b.drawn) (h4 : a.os = b.os) (h5 : a.output = b.output) : a = b := by
  cases a
  cases b
  simp only at h1 h2 h3 h4 h5
  subst h1 h2 h3 h4 h5
  rfl
theorem OD.grown {w w' : World} (h : OD w w') : ∃ q os', w' = Go.Sort.grow (w.drewN q) os' := by
  refine ⟨w'.drawn - w.drawn, w'.heap.extract w.heap.size w'.heap.size, World.ext4 ?_ h.o.tape ?_ h.o.os h.o.output⟩
  · show w'.heap = w.heap ++ _
    apply Array.ext_getElem?
    intro i
    rw [Array.getElem?_append]
    split
    · exact h.o.block i (by assumption) (by simp)
    · have := h.o.size
      rw [Array.getElem?_extract]
      split
      · congr 1
        omega
      · rw [Array.getElem?_eq_none]
        omega
  · have := h.d
    show w'.drawn = w.drawn + (w'.drawn - w.drawn)
    omega
theorem cmpT (blk off size : Nat) (w : World) : CmpLays Try.prog 33 #[] encT 2 cfT blk off size w := fun m os dk _ x y =>
  (order33d _ x.1 y.1 x.2 y.2).mono fun _ _ ⟨he, ho⟩ => ⟨he, ho.grown⟩
theorem flat_tcs (d : Array TT) : (Go.Sort.flatK encT 2 d).toList = tcs (d.toList.map (·.1)) := by
  apply List.ext_getElem?
  intro t
  have hl : (tcs (d.toList.map (·.1))).length = d.size * 2 := by rw [tcs_len]; simp
  by_cases ht : t < d.size * 2
  · have h1 : t / 2 < d.size := by omega
    have h2 := tcs_get (d.toList.map (·.1)) (t / 2) (by simpa using h1)
    have h3 : (d.toList.map (·.1)).getD (t / 2) (0, 0) = (d[t / 2]!).1 := by
      rw [getD_getElem (by simpa using h1), getElem!_pos d _ h1]
      simp
    rw [h3] at h2
    have h4 := Go.Sort.get_flatK encT 2 d t ht
    have h5 : (Go.Sort.flatK encT 2 d).toList[t]? = some ((Go.Sort.flatK encT 2 d)[t]!) := by
      rw [Array.getElem?_toList, getElem!_pos _ t (by simpa using ht), Array.getElem?_eq_getElem]
    rw [h5, h4]
    rcases Nat.mod_two_eq_zero_or_one t with e | e
    · rw [e, show t = t / 2 * 2 by omega, h2.1]
      rw [show t / 2 * 2 / 2 = t / 2 by omega]
      rfl
    · rw [e, show t = t / 2 * 2 + 1 by omega, h2.2]
      rw [show (t / 2 * 2 + 1) / 2 = t / 2 by omega]
      rfl
  · rw [List.getElem?_eq_none (by simp; omega), List.getElem?_eq_none (by rw [hl]; omega)]
/-- The library's sort of timers. -/
theorem sort_all {N : Nat} (hN : N < 4611686018427387904) : SortOk N := by
  intro w g off cap d hd
  have hdl := hd.len
  obtain ⟨da, hda, hsz⟩ : ∃ da : Array TT, da.toList.map (·.1) = d ∧ da.size = N := by
    refine ⟨(d.pmap (fun x h => (⟨x, h⟩ : TT)) hd.le).toArray, ?_, by simp [hdl]⟩
    rw [List.map_pmap]
    simp
  obtain ⟨cur, hb⟩ := sl_ty hd.sl (g := g) rfl
  have hH : Go.Sort.HoldsK encT 2 w g off da := fun j hj => by
    have hj2 : j < da.size * 2 := by simpa using hj
    have hc : (tcs d)[j]? = some ((Go.Sort.flatK encT 2 da)[j]!) := by
      rw [← hda, ← flat_tcs, Array.getElem?_toList, getElem!_pos _ j hj, Array.getElem?_eq_getElem]
    have := hd.sl.cells_ j _ hc
    rw [Addr.add_lit] at this
    exact ⟨this, hb.frozen _⟩
  have eg : ∀ args w, (callFunc 33 args).run Try.prog w = .ok (.enter 33 args) w := enters_of Try.func33 (by kernel_rfl) rfl
  have hcon := AnyQ.slices_SortFunc Try.sortT 2 Try.isAgg70 Try.sizeOf70 encT (fun _ => rfl) (fun x v hv => by simp [encT] at hv; rcases hv with rfl | rfl <;> rfl) cfT swoT 33 #[] g off cap da w eg (cmpT g off da.size w) hH hb.lt (by omega)
  rw [hsz] at hcon
  refine Calls.mono hcon ?_
  rintro e w' ⟨rfl, d', n, os, hp, hs, rfl⟩
  have hp1 : d'.size = N := hp.1.trans hsz
  have hpm : (d'.toList.map (·.1)).Perm d := by
    rw [← hda]
    have h1 := hp.2.2
    have e1 : d'.extract 0 N = d' := by rw [← hp1]; simp
    have e2 : da.extract 0 N = da := by rw [← hsz]; simp
    rw [e1, e2] at h1
    exact h1.map _
  have hget : ∀ k, k < N → (d'.toList.map (·.1)).getD k (0, 0) = (d'[k]!).1 := fun k hk => by
    rw [getD_getElem (by simp; omega), getElem!_pos d' k (by omega)]
    simp
  refine ⟨rfl, d'.toList.map (·.1), ⟨?_, by simp [hp1], fun x hx => hd.le x (hpm.mem_iff.1 hx)⟩, ⟨by simp [hp1, hdl], hpm, fun k hk ho => by omega⟩, fun i j h1 h2 h3 => ?_, ?_⟩
  · rw [← flat_tcs]
    refine ⟨by simp [hp1], ?_⟩
    rcases hd.sl.2 with ⟨hv, _⟩ | ⟨g', off', cap', cur', hv, hh, q1, q2, q3, q4⟩
    · cases hv
    injection hv with e1 _ e3
    injection e1 with e1
    injection e1 with e1 e2
    subst e1
    subst e2
    subst e3
    have hgl : g < w.heap.size := hb.lt
    refine .inr ⟨g, off, cap, Go.Sort.putCells id off (Go.Sort.flatK encT 2 d') cur', rfl, ?_, q1, q2, by unfold Go.Sort.putCells; simpa using q3, ?_⟩
    · show (w.heap.modify g _ ++ os)[g]? = _
      rw [Array.getElem?_append_left (by simpa using hgl), Array.getElem?_modify, if_pos rfl, hh]
      rfl
    · apply List.ext_getElem?
      intro t
      have hsz2 : (Go.Sort.flatK encT 2 d').size = N * 2 := by simp [hp1]
      by_cases ht : t < N * 2
      · rw [List.getElem?_take_of_lt ht, List.getElem?_drop, Array.getElem?_toList, Array.getElem?_toList]
        unfold Go.Sort.putCells
        rw [Array.getElem?_mapIdx]
        have hc : off + t < cur'.size := by omega
        rw [Array.getElem?_eq_getElem hc]
        simp only [Option.map_some]
        rw [if_pos (by omega), show off + t - off = t by omega, getElem!_pos _ t (by omega), Array.getElem?_eq_getElem]
        rfl
      · rw [List.getElem?_eq_none (by simp; omega), List.getElem?_eq_none (by simp; omega)]
  · rw [hget i (by omega), hget j h3, ← ltT]
    exact hs i j h1 h2 (by omega)
  · refine ⟨rfl, rfl, rfl, ?_, fun k hk hm => ?_⟩
    · show _ ≤ (w.heap.modify g _ ++ os).size
      simp
    · show (w.heap.modify g _ ++ os)[k]? = _
      rw [Array.getElem?_append_left (by simpa using hk), Array.getElem?_modify, if_neg (fun e => hm (by simp [e]))]
end Go.Proofs.Ytjnhplgdbdneiaa
