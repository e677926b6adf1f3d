/-
  The disk: a directory's names, in order: off the library's shelf (laid in plain words by the kit's own tool).
-/
import Derived.Shelf.SlIter.Nil
import Derived.Shelf.SortM.Plain
import Derived.Shelf.SortM.SortNone
import Derived.Test.YtnickdlpciheiaaDa
set_option linter.unusedSimpArgs false
set_option linter.unusedVariables false
namespace Go.Proofs
open Go.Shelf
def Try.keysD_ren : Go.Shelf.Ren := ⟨fun | 7 => 47 | 10 => 52 | n => n, fun | 23 => 62 | 26 => 9 | 3 => 79 | 28 => 114 | 0 => 0 | 27 => 113 | 33 => 97 | 4 => 4 | n => n, fun | n => n⟩
theorem Try.keysD : Go.Proofs.SlLaysZ.n7 Try.prog Try.keysD_ren := {
  mixed := by kernel_rfl
  f7 := ⟨Try.f47.name, by decide, Try.func47.trans (congrArg some (by kernel_rfl))⟩
  f10 := ⟨Try.f52.name, by decide, Try.func52.trans (congrArg some (by kernel_rfl))⟩
  t0 := Try.underlying0
  a0 := Try.isAgg0
  z0 := Try.sizeOf0
  v0 := Try.zeroValue0
  t4 := Try.underlying4
  a4 := Try.isAgg4
  z4 := Try.sizeOf4
  v4 := Try.zeroValue4
  t23 := Try.underlying62
  a23 := Try.isAgg62
  z23 := Try.sizeOf62
  v23 := Try.zeroValue62
  t26 := Try.underlying9
  a26 := Try.isAgg9
  z26 := Try.sizeOf9
  v26 := Try.zeroValue9
  t27 := Try.underlying113
  a27 := Try.isAgg113
  z27 := Try.sizeOf113
  v27 := Try.zeroValue113
  t28 := Try.underlying114
  a28 := Try.isAgg114
  z28 := Try.sizeOf114
  v28 := Try.zeroValue114
  t33 := Try.underlying97
  a33 := Try.isAgg97
  z33 := Try.sizeOf97
  v33 := Try.zeroValue97 }
def Try.sortedD_ren : Go.Shelf.Ren := ⟨fun | 6 => 46 | 8 => 50 | 9 => 51 | 11 => 54 | 13 => 56 | 12 => 55 | 23 => 67 | 24 => 68 | 14 => 58 | 15 => 59 | 16 => 60 | 17 => 61 | 18 => 62 | 19 => 63 | 20 => 64 | 21 => 65 | 22 => 66 | 25 => 69 | 26 => 70 | 27 => 71 | 28 => 72 | 29 => 73 | 30 => 74 | 31 => 75 | n => n, fun | 26 => 9 | 28 => 114 | 24 => 57 | 0 => 0 | 3 => 3 | 37 => 123 | 48 => 135 | 50 => 137 | 4 => 4 | 40 => 127 | 39 => 126 | 45 => 132 | 5 => 5 | 9 => 9 | 51 => 138 | 55 => 142 | 57 => 144 | 58 => 145 | 33 => 97 | n => n, fun | n => n⟩
theorem Try.sortedD : Go.Proofs.SlLaysZ.n6 Try.prog Try.sortedD_ren := {
  mixed := by kernel_rfl
  f6 := ⟨Try.f46.name, by decide, Try.func46.trans (congrArg some (by kernel_rfl))⟩
  f8 := ⟨Try.f50.name, by decide, Try.func50.trans (congrArg some (by kernel_rfl))⟩
  f11 := ⟨Try.f54.name, by decide, Try.func54.trans (congrArg some (by kernel_rfl))⟩
  t0 := Try.underlying0
  a0 := Try.isAgg0
  z0 := Try.sizeOf0
  v0 := Try.zeroValue0
  t24 := Try.underlying57
  a24 := Try.isAgg57
  z24 := Try.sizeOf57
  v24 := Try.zeroValue57
  t26 := Try.underlying9
  a26 := Try.isAgg9
  z26 := Try.sizeOf9
  v26 := Try.zeroValue9
  t28 := Try.underlying114
  a28 := Try.isAgg114
  z28 := Try.sizeOf114
  v28 := Try.zeroValue114
  i26 := by kernel_rfl }
def Try.sortD_ren : Go.Shelf.Ren := ⟨fun | 6 => 51 | 8 => 56 | 9 => 55 | 19 => 67 | 20 => 68 | 21 => 58 | 22 => 59 | 23 => 60 | 24 => 61 | 25 => 62 | 26 => 63 | 27 => 64 | 28 => 65 | 29 => 66 | 36 => 69 | 31 => 70 | 32 => 71 | 37 => 72 | 38 => 73 | 39 => 74 | 41 => 75 | n => n, fun | 27 => 57 | 29 => 9 | 3 => 3 | 32 => 123 | 26 => 57 | 0 => 0 | 44 => 135 | 46 => 137 | 4 => 4 | 36 => 127 | 35 => 126 | 41 => 132 | 5 => 5 | 9 => 9 | 53 => 138 | 57 => 142 | 63 => 144 | 64 => 145 | n => n, fun | n => n⟩
theorem Try.sortD : Go.Proofs.SlLaysM.n6 Try.prog Try.sortD_ren := {
  mixed := by kernel_rfl
  f6 := ⟨Try.f51.name, by decide, Try.func51.trans (congrArg some (by kernel_rfl))⟩
  f8 := Try.func56.trans (congrArg some (by kernel_rfl))
  f9 := ⟨Try.f55.name, by decide, Try.func55.trans (congrArg some (by kernel_rfl))⟩
  f19 := Try.func67.trans (congrArg some (by kernel_rfl))
  f20 := Try.func68.trans (congrArg some (by kernel_rfl))
  f21 := ⟨Try.f58.name, by decide, Try.func58.trans (congrArg some (by kernel_rfl))⟩
  f22 := ⟨Try.f59.name, by decide, Try.func59.trans (congrArg some (by kernel_rfl))⟩
  f23 := ⟨Try.f60.name, by decide, Try.func60.trans (congrArg some (by kernel_rfl))⟩
  f24 := ⟨Try.f61.name, by decide, Try.func61.trans (congrArg some (by kernel_rfl))⟩
  f25 := ⟨Try.f62.name, by decide, Try.func62.trans (congrArg some (by kernel_rfl))⟩
  f26 := ⟨Try.f63.name, by decide, Try.func63.trans (congrArg some (by kernel_rfl))⟩
  f27 := ⟨Try.f64.name, by decide, Try.func64.trans (congrArg some (by kernel_rfl))⟩
  f28 := ⟨Try.f65.name, by decide, Try.func65.trans (congrArg some (by kernel_rfl))⟩
  f29 := ⟨Try.f66.name, by decide, Try.func66.trans (congrArg some (by kernel_rfl))⟩
  f31 := Try.func70.trans (congrArg some (by kernel_rfl))
  f32 := Try.func71.trans (congrArg some (by kernel_rfl))
  f36 := ⟨Try.f69.name, by decide, Try.func69.trans (congrArg some (by kernel_rfl))⟩
  f37 := ⟨Try.f72.name, by decide, Try.func72.trans (congrArg some (by kernel_rfl))⟩
  f38 := ⟨Try.f73.name, by decide, Try.func73.trans (congrArg some (by kernel_rfl))⟩
  f39 := ⟨Try.f74.name, by decide, Try.func74.trans (congrArg some (by kernel_rfl))⟩
  f41 := ⟨Try.f75.name, by decide, Try.func75.trans (congrArg some (by kernel_rfl))⟩
  t0 := Try.underlying0
  a0 := Try.isAgg0
  z0 := Try.sizeOf0
  v0 := Try.zeroValue0
  t3 := Try.underlying3
  a3 := Try.isAgg3
  z3 := Try.sizeOf3
  v3 := Try.zeroValue3
  t4 := Try.underlying4
  a4 := Try.isAgg4
  z4 := Try.sizeOf4
  v4 := Try.zeroValue4
  t5 := Try.underlying5
  a5 := Try.isAgg5
  z5 := Try.sizeOf5
  v5 := Try.zeroValue5
  t9 := Try.underlying9
  a9 := Try.isAgg9
  z9 := Try.sizeOf9
  v9 := Try.zeroValue9
  t26 := Try.underlying57
  a26 := Try.isAgg57
  z26 := Try.sizeOf57
  v26 := Try.zeroValue57
  t27 := Try.underlying57
  a27 := Try.isAgg57
  z27 := Try.sizeOf57
  v27 := Try.zeroValue57
  t29 := Try.underlying9
  a29 := Try.isAgg9
  z29 := Try.sizeOf9
  v29 := Try.zeroValue9
  t32 := Try.underlying123
  a32 := Try.isAgg123
  z32 := Try.sizeOf123
  v32 := Try.zeroValue123
  t35 := Try.underlying126
  a35 := Try.isAgg126
  z35 := Try.sizeOf126
  v35 := Try.zeroValue126
  t36 := Try.underlying127
  a36 := Try.isAgg127
  z36 := Try.sizeOf127
  v36 := Try.zeroValue127
  t41 := Try.underlying132
  a41 := Try.isAgg132
  z41 := Try.sizeOf132
  v41 := Try.zeroValue132
  t44 := Try.underlying135
  a44 := Try.isAgg135
  z44 := Try.sizeOf135
  v44 := Try.zeroValue135
  t46 := Try.underlying137
  a46 := Try.isAgg137
  z46 := Try.sizeOf137
  v46 := Try.zeroValue137
  t53 := Try.underlying138
  a53 := Try.isAgg138
  z53 := Try.sizeOf138
  v53 := Try.zeroValue138
  t57 := Try.underlying142
  a57 := Try.isAgg142
  z57 := Try.sizeOf142
  v57 := Try.zeroValue142
  t63 := Try.underlying144
  a63 := Try.isAgg144
  z63 := Try.sizeOf144
  v63 := Try.zeroValue144
  t64 := Try.underlying145
  a64 := Try.isAgg145
  z64 := Try.sizeOf145
  v64 := Try.zeroValue145 }


end Go.Proofs
namespace Go.Proofs.Ytnickdlpciheiaa
open Go.RowKit Go.Fl Go.Maps Go.Sort Go.Shelf

/-- The library's sort of strings. -/
theorem sortsD (m : Nat) : AnyZ.SortsIn Try.prog Try.sortedD_ren Fence.wide m :=
  ⟨fun blk off cap ss W hH hblk hsz => callsIn_wide.2 (AnyM.slices_Sort_string Try.sortD blk off cap ss W hH hblk hsz),
   fun p cap W => callsIn_wide.2 (AnyM.slices_Sort_string_none Try.sortD p cap W)⟩
theorem key_sk {P : Program} {k : TypeId} (hk : P.underlying k = some .string) {x : Nm} (h : x.length ≤ 64) : keyOf P k (sk x) = some (.string x) := by
  have := Go.WideMaps.keyOf_string_mk (P := P) (k := k) hk (s := ⟨x.toArray⟩) (by show x.toArray.size ≤ maxLen; simp [maxLen]; omega)
  simpa using this
theorem nl_le {a b : Nm} (h : nl a b = true) : decide (a ≤ b) = true := by
  unfold nl at h
  rw [bytesLess_eq] at h
  have h1 : a < b := by simpa using h
  simpa using List.le_of_lt h1
/-- A directory as the library's map. -/
theorem own_of_dmap {P : Program} {k : TypeId} (hk : P.underlying k = some .string) {w : World} {b : Nat} {d : Dir} (h : DMap w b d) (hn : ∀ x ∈ d, x.1.length ≤ 64) (hl : d.length ≤ 1048576) :
    ∃ D0 : DataW Unit, w.ownsMap P k (fun _ => some ((DataW.nil : DataW Unit), [])) b d.length D0 ∧ (strKeys D0).Perm (d.map (·.1)) ∧ Maps.size D0 = d.length := by
  obtain ⟨⟨m, ⟨es, clock, hb, hse⟩, hp⟩, hs⟩ := h
  have hm : ∀ p ∈ m, p.1.length ≤ 64 := fun p hp2 => by
    have h1 := hp.mem_iff.1 hp2
    unfold dirV at h1
    obtain ⟨q, hq, rfl⟩ := List.mem_map.1 h1
    exact hn q hq
  have hlen : es.toList.length = d.length := by
    have h1 : (kvs es).length = (skv m).length := by rw [hse.kv]
    have h2 := hp.length_eq
    unfold kvs skv at h1
    unfold dirV at h2
    simp at h1 h2
    simpa using h1.trans h2
  have hrg : es.toList.map (Go.WideElems.rg P k (fun _ => some ((DataW.nil : DataW Unit), []))) = m.map fun p => (Lit.string p.1, (DataW.nil : DataW Unit)) := by
    have h1 : es.toList.map (Go.WideElems.rg P k (fun _ => some ((DataW.nil : DataW Unit), []))) = (kvs es).map (fun kv => ((keyOf P k kv.1).bind fun key => (some ((DataW.nil : DataW Unit), ([] : List MemPlace))).map fun y => (key, y.1)).getD (.bool false, .nil)) := by
      unfold kvs
      rw [List.map_map]
      rfl
    rw [h1, hse.kv]
    unfold skv
    rw [List.map_map]
    refine List.map_congr_left fun p hp2 => ?_
    show ((keyOf P k (sk p.1)).bind _).getD _ = _
    rw [key_sk hk (hm p hp2)]
    rfl
  have hkey : ∀ x ∈ es.toList, ∃ p ∈ m, x.key = sk p.1 := fun x hx => by
    have h1 : (x.key, x.val) ∈ kvs es := List.mem_map.2 ⟨x, hx, rfl⟩
    rw [hse.kv] at h1
    obtain ⟨p, hp2, e⟩ := List.mem_map.1 h1
    injection e with e1 e2
    exact ⟨p, hp2, e1.symm⟩
  have hperm := Go.WideShapes.sorted_perm (m.map fun p => (Lit.string p.1, (DataW.nil : DataW Unit)))
  refine ⟨.map ((es.toList.map (Go.WideElems.rg P k (fun _ => some ((DataW.nil : DataW Unit), [])))).foldr DataW.insert []), ⟨es, clock, hb, ⟨by rw [← Array.length_toList, hlen]; unfold maxLen; omega, ⟨hse.lt, ?_, ?_⟩, ?_⟩, by rw [← Array.length_toList, hlen]; exact Nat.le_refl _, rfl⟩, ?_, ?_⟩
  · exact hse.up.imp fun h => Nat.ne_of_lt h
  · have h1 : es.toList.map (·.key) = (kvs es).map (·.1) := by unfold kvs; rw [List.map_map]; rfl
    rw [h1, hse.kv]
    unfold skv
    rw [List.map_map]
    have h2 := hse.nod
    rw [List.nodup_iff_pairwise_ne, List.pairwise_map] at h2 ⊢
    refine h2.imp fun hne e => hne ?_
    injection e with e
    injection e with e
    injection e
  · intro x hx
    obtain ⟨p, hp2, e⟩ := hkey x hx
    exact ⟨(.string p.1, .nil), by unfold Go.WideElems.rd; rw [e, key_sk hk (hm p hp2)]; rfl⟩
  · rw [hrg]
    show (List.map (fun p : Lit × DataW Unit => strOf p.1) _).Perm _
    refine (hperm.map _).trans ?_
    rw [List.map_map]
    have h3 := hp.map (·.1)
    unfold dirV at h3
    rw [List.map_map] at h3
    exact h3
  · rw [hrg]
    show (List.foldr DataW.insert [] _).length = _
    rw [hperm.length_eq, List.length_map, hp.length_eq]
    unfold dirV
    simp
set_option maxHeartbeats 1600000 in
/-- The names of a directory, in order. -/
theorem names_ok {w : World} {b : Nat} {d : Dir} (h : DMap w b d) (hn : ∀ x ∈ d, x.1.length ≤ 64) (hl : d.length ≤ 1048576) : Calls Try.prog 39 #[.map (some b)] w fun e w' =>
    ∃ v, e = .returned v ∧ Sl w' 9 1 v d.length (d.map fun p => sk p.1) ∧ Only [] w w' ∧ ∀ g, v.ownBlock = some g → w.heap.size ≤ g := by
  have hsrt := h.2
  obtain ⟨D0, hown, hperm, hsz⟩ := own_of_dmap (P := Try.prog) (k := 9) Try.underlying9 h hn hl
  have hmax : Maps.size D0 ≤ maxLen := by rw [hsz]; unfold maxLen; omega
  have hbytes : Maps.size D0 * 16 ≤ 140737488355328 := by rw [hsz]; omega
  have hbl := hown.lt
  have hseq : SeqGives Fence.wide 2 Try.prog 52 #[.pointer (some ⟨w.heap.size, 0, none⟩)] encStr (fun ss => ss.Perm (strKeys D0)) (Maps.size D0) (w.alloc (.cells #[.map (some b)] 62)) :=
    AnyZ.keys_gives (ρ := Try.keysD_ren) { Try.keysD with } Fence.wide _ trivial rfl (by omega) w.heap.size b d.length D0 _ (by simp) (by simp) (by
      obtain ⟨es, clock, hb, Ft, hs, hD⟩ := hown
      exact ⟨es, clock, (Below.heap_alloc _ _ b hbl).trans hb, Ft, hs, hD⟩)
  have cK : ∀ mb W, CallsIn Fence.wide 5 Try.prog 47 #[.map mb] W fun e w' => e = .returned (.func (.func 52) #[] #[.pointer (some ⟨W.heap.size, 0, none⟩)]) ∧ w' = W.alloc (.cells #[.map mb] 62) := fun mb W => AnyZ.keys_in Try.keysD Fence.wide 5 trivial rfl mb W
  have cS := AnyZ.sorted_in Try.sortedD Fence.wide 5 trivial trivial trivial trivial rfl (by omega) (sortsD _) (enters_of Try.func51 (by kernel_rfl) rfl) 52 #[.pointer (some ⟨w.heap.size, 0, none⟩)] trivial (enters_of Try.func52 (by kernel_rfl) rfl) _ _ hmax hbytes _ hseq
  change CallsIn _ _ Try.prog 46 _ _ _ at cS
  have hfK : Fence.wide.fn 47 := trivial
  have hfS : Fence.wide.fn 46 := trivial
  have HSRT := Lib.hid hsrt
  have HPERM := Lib.hid hperm
  clear hsrt hperm h hn hl hown hmax hbytes hseq hsz
  refine (callsIn_wide (n := 6)).1 ?_
  refine callsIn_of_wp Try.func39 rfl trivial ?_ rfl
  simp only [Try.ntmps39, List.size_toArray, List.length_cons, List.length_nil, Nat.reduceAdd, Nat.reduceSub, Array.replicate_succ, Array.replicate_zero, List.push_toArray, List.append_toArray, List.nil_append, List.cons_append]
  gi_wp2_with (first
    | (gi_at_call 47; refine (cK _ _).mono ?_; rintro e w' ⟨rfl, rfl⟩)
    | (gi_at_call 46; refine cS.mono ?_; rintro e w' ⟨v, ss, rfl, hS, hrow, hnil, hb⟩))
  go_ret
  have hp : ss.Perm (d.map (·.1)) := hS.trans HPERM.out
  have he : ss.mergeSort (fun x y => decide (x ≤ y)) = d.map (·.1) := by
    rw [mergeSort_of_perm hp]
    exact List.mergeSort_of_pairwise (List.pairwise_map.2 (HSRT.out.imp fun h => nl_le h))
  have hln : ss.length = d.length := by rw [hp.length_eq, List.length_map]
  rw [he, hln, List.map_map] at hrow
  have hbel : Below w.heap.size w w' := ((Below.refl _ w).alloc (Nat.le_refl _) _).trans (hb.mono (by simp))
  refine ⟨v, rfl, Sl.of_own hrow, Only.of_below hbel _, fun g hg => ?_⟩
  rcases hrow.2 with ⟨e, _⟩ | ⟨g', cap, cur, e, hge, _⟩
  · rw [e] at hg; cases hg
  · rw [e] at hg
    injection hg with hg
    have hg2 : g' = g := hg
    simp at hge
    omega
end Go.Proofs.Ytnickdlpciheiaa
