/-
  The disk: a directory's names, in order: off the library's shelf (laid in plain words by the kit's own tool).
-/
import Derived.Shelf.SlIter.Nil
import Derived.Shelf.SortM.Plain
import Derived.Shelf.SortM.SortNone
import Derived.Test.YthekilgolelomaaDa
set_option linter.unusedSimpArgs false
set_option linter.unusedVariables false
namespace Go.Proofs
open Go.Shelf
def Try.keysD_ren : Go.Shelf.Ren := ⟨fun | 7 => 53 | 10 => 57 | n => n, fun | 23 => 56 | 26 => 9 | 3 => 78 | 28 => 123 | 0 => 0 | 27 => 122 | 33 => 91 | 4 => 4 | n => n, fun | n => n⟩
theorem Try.keysD : Go.Proofs.SlLaysZ.n7 Try.prog Try.keysD_ren := {
  mixed := by kernel_rfl
  f7 := ⟨Try.f53.name, by decide, Try.func53.trans (congrArg some (by kernel_rfl))⟩
  f10 := ⟨Try.f57.name, by decide, Try.func57.trans (congrArg some (by kernel_rfl))⟩
  t0 := Try.underlying0
  a0 := Try.isAgg0
  z0 := Try.sizeOf0
  v0 := Try.zeroValue0
  t4 := Try.underlying4
  a4 := Try.isAgg4
  z4 := Try.sizeOf4
  v4 := Try.zeroValue4
  t23 := Try.underlying56
  a23 := Try.isAgg56
  z23 := Try.sizeOf56
  v23 := Try.zeroValue56
  t26 := Try.underlying9
  a26 := Try.isAgg9
  z26 := Try.sizeOf9
  v26 := Try.zeroValue9
  t27 := Try.underlying122
  a27 := Try.isAgg122
  z27 := Try.sizeOf122
  v27 := Try.zeroValue122
  t28 := Try.underlying123
  a28 := Try.isAgg123
  z28 := Try.sizeOf123
  v28 := Try.zeroValue123
  t33 := Try.underlying91
  a33 := Try.isAgg91
  z33 := Try.sizeOf91
  v33 := Try.zeroValue91 }
def Try.sortedD_ren : Go.Shelf.Ren := ⟨fun | 6 => 52 | 8 => 55 | 9 => 56 | 11 => 59 | 13 => 61 | 12 => 60 | 23 => 72 | 24 => 73 | 14 => 63 | 15 => 64 | 16 => 65 | 17 => 66 | 18 => 67 | 19 => 68 | 20 => 69 | 21 => 70 | 22 => 71 | 25 => 74 | 26 => 75 | 27 => 76 | 28 => 77 | 29 => 78 | 30 => 79 | 31 => 80 | n => n, fun | 26 => 9 | 28 => 123 | 24 => 61 | 0 => 0 | 3 => 3 | 37 => 131 | 48 => 143 | 50 => 145 | 4 => 4 | 40 => 135 | 39 => 134 | 45 => 140 | 5 => 5 | 9 => 9 | 51 => 146 | 55 => 150 | 57 => 152 | 58 => 153 | 33 => 91 | n => n, fun | n => n⟩
theorem Try.sortedD : Go.Proofs.SlLaysZ.n6 Try.prog Try.sortedD_ren := {
  mixed := by kernel_rfl
  f6 := ⟨Try.f52.name, by decide, Try.func52.trans (congrArg some (by kernel_rfl))⟩
  f8 := ⟨Try.f55.name, by decide, Try.func55.trans (congrArg some (by kernel_rfl))⟩
  f11 := ⟨Try.f59.name, by decide, Try.func59.trans (congrArg some (by kernel_rfl))⟩
  t0 := Try.underlying0
  a0 := Try.isAgg0
  z0 := Try.sizeOf0
  v0 := Try.zeroValue0
  t24 := Try.underlying61
  a24 := Try.isAgg61
  z24 := Try.sizeOf61
  v24 := Try.zeroValue61
  t26 := Try.underlying9
  a26 := Try.isAgg9
  z26 := Try.sizeOf9
  v26 := Try.zeroValue9
  t28 := Try.underlying123
  a28 := Try.isAgg123
  z28 := Try.sizeOf123
  v28 := Try.zeroValue123
  i26 := by kernel_rfl }
def Try.sortD_ren : Go.Shelf.Ren := ⟨fun | 6 => 56 | 8 => 61 | 9 => 60 | 19 => 72 | 20 => 73 | 21 => 63 | 22 => 64 | 23 => 65 | 24 => 66 | 25 => 67 | 26 => 68 | 27 => 69 | 28 => 70 | 29 => 71 | 36 => 74 | 31 => 75 | 32 => 76 | 37 => 77 | 38 => 78 | 39 => 79 | 41 => 80 | n => n, fun | 27 => 61 | 29 => 9 | 3 => 3 | 32 => 131 | 26 => 61 | 0 => 0 | 44 => 143 | 46 => 145 | 4 => 4 | 36 => 135 | 35 => 134 | 41 => 140 | 5 => 5 | 9 => 9 | 53 => 146 | 57 => 150 | 63 => 152 | 64 => 153 | n => n, fun | n => n⟩
theorem Try.sortD : Go.Proofs.SlLaysM.n6 Try.prog Try.sortD_ren := {
  mixed := by kernel_rfl
  f6 := ⟨Try.f56.name, by decide, Try.func56.trans (congrArg some (by kernel_rfl))⟩
  f8 := Try.func61.trans (congrArg some (by kernel_rfl))
  f9 := ⟨Try.f60.name, by decide, Try.func60.trans (congrArg some (by kernel_rfl))⟩
  f19 := Try.func72.trans (congrArg some (by kernel_rfl))
  f20 := Try.func73.trans (congrArg some (by kernel_rfl))
  f21 := ⟨Try.f63.name, by decide, Try.func63.trans (congrArg some (by kernel_rfl))⟩
  f22 := ⟨Try.f64.name, by decide, Try.func64.trans (congrArg some (by kernel_rfl))⟩
  f23 := ⟨Try.f65.name, by decide, Try.func65.trans (congrArg some (by kernel_rfl))⟩
  f24 := ⟨Try.f66.name, by decide, Try.func66.trans (congrArg some (by kernel_rfl))⟩
  f25 := ⟨Try.f67.name, by decide, Try.func67.trans (congrArg some (by kernel_rfl))⟩
  f26 := ⟨Try.f68.name, by decide, Try.func68.trans (congrArg some (by kernel_rfl))⟩
  f27 := ⟨Try.f69.name, by decide, Try.func69.trans (congrArg some (by kernel_rfl))⟩
  f28 := ⟨Try.f70.name, by decide, Try.func70.trans (congrArg some (by kernel_rfl))⟩
  f29 := ⟨Try.f71.name, by decide, Try.func71.trans (congrArg some (by kernel_rfl))⟩
  f31 := Try.func75.trans (congrArg some (by kernel_rfl))
  f32 := Try.func76.trans (congrArg some (by kernel_rfl))
  f36 := ⟨Try.f74.name, by decide, Try.func74.trans (congrArg some (by kernel_rfl))⟩
  f37 := ⟨Try.f77.name, by decide, Try.func77.trans (congrArg some (by kernel_rfl))⟩
  f38 := ⟨Try.f78.name, by decide, Try.func78.trans (congrArg some (by kernel_rfl))⟩
  f39 := ⟨Try.f79.name, by decide, Try.func79.trans (congrArg some (by kernel_rfl))⟩
  f41 := ⟨Try.f80.name, by decide, Try.func80.trans (congrArg some (by kernel_rfl))⟩
  t0 := Try.underlying0
  a0 := Try.isAgg0
  z0 := Try.sizeOf0
  v0 := Try.zeroValue0
  t3 := Try.underlying3
  a3 := Try.isAgg3
  z3 := Try.sizeOf3
  v3 := Try.zeroValue3
  t4 := Try.underlying4
  a4 := Try.isAgg4
  z4 := Try.sizeOf4
  v4 := Try.zeroValue4
  t5 := Try.underlying5
  a5 := Try.isAgg5
  z5 := Try.sizeOf5
  v5 := Try.zeroValue5
  t9 := Try.underlying9
  a9 := Try.isAgg9
  z9 := Try.sizeOf9
  v9 := Try.zeroValue9
  t26 := Try.underlying61
  a26 := Try.isAgg61
  z26 := Try.sizeOf61
  v26 := Try.zeroValue61
  t27 := Try.underlying61
  a27 := Try.isAgg61
  z27 := Try.sizeOf61
  v27 := Try.zeroValue61
  t29 := Try.underlying9
  a29 := Try.isAgg9
  z29 := Try.sizeOf9
  v29 := Try.zeroValue9
  t32 := Try.underlying131
  a32 := Try.isAgg131
  z32 := Try.sizeOf131
  v32 := Try.zeroValue131
  t35 := Try.underlying134
  a35 := Try.isAgg134
  z35 := Try.sizeOf134
  v35 := Try.zeroValue134
  t36 := Try.underlying135
  a36 := Try.isAgg135
  z36 := Try.sizeOf135
  v36 := Try.zeroValue135
  t41 := Try.underlying140
  a41 := Try.isAgg140
  z41 := Try.sizeOf140
  v41 := Try.zeroValue140
  t44 := Try.underlying143
  a44 := Try.isAgg143
  z44 := Try.sizeOf143
  v44 := Try.zeroValue143
  t46 := Try.underlying145
  a46 := Try.isAgg145
  z46 := Try.sizeOf145
  v46 := Try.zeroValue145
  t53 := Try.underlying146
  a53 := Try.isAgg146
  z53 := Try.sizeOf146
  v53 := Try.zeroValue146
  t57 := Try.underlying150
  a57 := Try.isAgg150
  z57 := Try.sizeOf150
  v57 := Try.zeroValue150
  t63 := Try.underlying152
  a63 := Try.isAgg152
  z63 := Try.sizeOf152
  v63 := Try.zeroValue152
  t64 := Try.underlying153
  a64 := Try.isAgg153
  z64 := Try.sizeOf153
  v64 := Try.zeroValue153 }

end Go.Proofs
namespace Go.Proofs.Ythekilgolelomaa
open Go.RowKit Go.Fl Go.Maps Go.Sort Go.Shelf

/-- The library's sort of strings. -/
theorem sortsD (m : Nat) : AnyZ.SortsIn Try.prog Try.sortedD_ren Fence.wide m :=
  ⟨fun blk off cap ss W hH hblk hsz => callsIn_wide.2 (AnyM.slices_Sort_string Try.sortD blk off cap ss W hH hblk hsz),
   fun p cap W => callsIn_wide.2 (AnyM.slices_Sort_string_none Try.sortD p cap W)⟩
theorem key_sk {P : Program} {k : TypeId} (hk : P.underlying k = some .string) {x : Nm} (h : x.length ≤ 64) : keyOf P k (sk x) = some (.string x) := by
  have := Go.WideMaps.keyOf_string_mk (P := P) (k := k) hk (s := ⟨x.toArray⟩) (by show x.toArray.size ≤ maxLen; simp [maxLen]; omega)
  simpa using this
theorem nl_le {a b : Nm} (h : nl a b = true) : decide (a ≤ b) = true := by
  unfold nl at h
  rw [bytesLess_eq] at h
  have h1 : a < b := by simpa using h
  simpa using List.le_of_lt h1
/-- A directory as the library's map. -/
theorem own_of_dmap {P : Program} {k : TypeId} (hk : P.underlying k = some .string) {w : World} {b : Nat} {d : Dir} (h : DMap w b d) (hn : ∀ x ∈ d, x.1.length ≤ 64) (hl : d.length ≤ 1048576) :
    ∃ D0 : DataW Unit, w.ownsMap P k (fun _ => some ((DataW.nil : DataW Unit), [])) b d.length D0 ∧ (strKeys D0).Perm (d.map (·.1)) ∧ Maps.size D0 = d.length := by
  obtain ⟨⟨m, ⟨es, clock, hb, hse⟩, hp⟩, hs⟩ := h
  have hm : ∀ p ∈ m, p.1.length ≤ 64 := fun p hp2 => by
    have h1 := hp.mem_iff.1 hp2
    unfold dirV at h1
    obtain ⟨q, hq, rfl⟩ := List.mem_map.1 h1
    exact hn q hq
  have hlen : es.toList.length = d.length := by
    have h1 : (kvs es).length = (skv m).length := by rw [hse.kv]
    have h2 := hp.length_eq
    unfold kvs skv at h1
    unfold dirV at h2
    simp at h1 h2
    simpa using h1.trans h2
  have hrg : es.toList.map (Go.WideElems.rg P k (fun _ => some ((DataW.nil : DataW Unit), []))) = m.map fun p => (Lit.string p.1, (DataW.nil : DataW Unit)) := by
    have h1 : es.toList.map (Go.WideElems.rg P k (fun _ => some ((DataW.nil : DataW Unit), []))) = (kvs es).map (fun kv => ((keyOf P k kv.1).bind fun key => (some ((DataW.nil : DataW Unit), ([] : List MemPlace))).map fun y => (key, y.1)).getD (.bool false, .nil)) := by
      unfold kvs
      rw [List.map_map]
      rfl
    rw [h1, hse.kv]
    unfold skv
    rw [List.map_map]
    refine List.map_congr_left fun p hp2 => ?_
    show ((keyOf P k (sk p.1)).bind _).getD _ = _
    rw [key_sk hk (hm p hp2)]
    rfl
  have hkey : ∀ x ∈ es.toList, ∃ p ∈ m, x.key = sk p.1 := fun x hx => by
    have h1 : (x.key, x.val) ∈ kvs es := List.mem_map.2 ⟨x, hx, rfl⟩
    rw [hse.kv] at h1
    obtain ⟨p, hp2, e⟩ := List.mem_map.1 h1
    injection e with e1 e2
    exact ⟨p, hp2, e1.symm⟩
  have hperm := Go.WideShapes.sorted_perm (m.map fun p => (Lit.string p.1, (DataW.nil : DataW Unit)))
  refine ⟨.map ((es.toList.map (Go.WideElems.rg P k (fun _ => some ((DataW.nil : DataW Unit), [])))).foldr DataW.insert []), ⟨es, clock, hb, ⟨by rw [← Array.length_toList, hlen]; unfold maxLen; omega, ⟨hse.lt, ?_, ?_⟩, ?_⟩, by rw [← Array.length_toList, hlen]; exact Nat.le_refl _, rfl⟩, ?_, ?_⟩
  · exact hse.up.imp fun h => Nat.ne_of_lt h
  · have h1 : es.toList.map (·.key) = (kvs es).map (·.1) := by unfold kvs; rw [List.map_map]; rfl
    rw [h1, hse.kv]
    unfold skv
    rw [List.map_map]
    have h2 := hse.nod
    rw [List.nodup_iff_pairwise_ne, List.pairwise_map] at h2 ⊢
    refine h2.imp fun hne e => hne ?_
    injection e with e
    injection e with e
    injection e
  · intro x hx
    obtain ⟨p, hp2, e⟩ := hkey x hx
    exact ⟨(.string p.1, .nil), by unfold Go.WideElems.rd; rw [e, key_sk hk (hm p hp2)]; rfl⟩
  · rw [hrg]
    show (List.map (fun p : Lit × DataW Unit => strOf p.1) _).Perm _
    refine (hperm.map _).trans ?_
    rw [List.map_map]
    have h3 := hp.map (·.1)
    unfold dirV at h3
    rw [List.map_map] at h3
    exact h3
  · rw [hrg]
    show (List.foldr DataW.insert [] _).length = _
    rw [hperm.length_eq, List.length_map, hp.length_eq]
    unfold dirV
    simp
set_option maxHeartbeats 1600000 in
/-- The names of a directory, in order. -/
theorem names_ok {w : World} {b : Nat} {d : Dir} (h : DMap w b d) (hn : ∀ x ∈ d, x.1.length ≤ 64) (hl : d.length ≤ 1048576) : Calls Try.prog 42 #[.map (some b)] w fun e w' =>
    ∃ v, e = .returned v ∧ Sl w' 9 1 v d.length (d.map fun p => sk p.1) ∧ Only [] w w' ∧ ∀ g, v.ownBlock = some g → w.heap.size ≤ g := by
  have hsrt := h.2
  obtain ⟨D0, hown, hperm, hsz⟩ := own_of_dmap (P := Try.prog) (k := 9) Try.underlying9 h hn hl
  have hmax : Maps.size D0 ≤ maxLen := by rw [hsz]; unfold maxLen; omega
  have hbytes : Maps.size D0 * 16 ≤ 140737488355328 := by rw [hsz]; omega
  have hbl := hown.lt
  have hseq : SeqGives Fence.wide 2 Try.prog 57 #[.pointer (some ⟨w.heap.size, 0, none⟩)] encStr (fun ss => ss.Perm (strKeys D0)) (Maps.size D0) (w.alloc (.cells #[.map (some b)] 56)) :=
    AnyZ.keys_gives (ρ := Try.keysD_ren) { Try.keysD with } Fence.wide _ trivial rfl (by omega) w.heap.size b d.length D0 _ (by simp) (by simp) (by
      obtain ⟨es, clock, hb, Ft, hs, hD⟩ := hown
      exact ⟨es, clock, (Below.heap_alloc _ _ b hbl).trans hb, Ft, hs, hD⟩)
  have cK : ∀ mb W, CallsIn Fence.wide 5 Try.prog 53 #[.map mb] W fun e w' => e = .returned (.func (.func 57) #[] #[.pointer (some ⟨W.heap.size, 0, none⟩)]) ∧ w' = W.alloc (.cells #[.map mb] 56) := fun mb W => AnyZ.keys_in Try.keysD Fence.wide 5 trivial rfl mb W
  have cS := AnyZ.sorted_in Try.sortedD Fence.wide 5 trivial trivial trivial trivial rfl (by omega) (sortsD _) (enters_of Try.func56 (by kernel_rfl) rfl) 57 #[.pointer (some ⟨w.heap.size, 0, none⟩)] trivial (enters_of Try.func57 (by kernel_rfl) rfl) _ _ hmax hbytes _ hseq
  change CallsIn _ _ Try.prog 52 _ _ _ at cS
  have hfK : Fence.wide.fn 53 := trivial
  have hfS : Fence.wide.fn 52 := trivial
  have HSRT := Lib.hid hsrt
  have HPERM := Lib.hid hperm
  clear hsrt hperm h hn hl hown hmax hbytes hseq hsz
  refine (callsIn_wide (n := 6)).1 ?_
  refine callsIn_of_wp Try.func42 rfl trivial ?_ rfl
  simp only [Try.ntmps42, List.size_toArray, List.length_cons, List.length_nil, Nat.reduceAdd, Nat.reduceSub, Array.replicate_succ, Array.replicate_zero, List.push_toArray, List.append_toArray, List.nil_append, List.cons_append]
  gi_wp2_with (first
    | (gi_at_call 53; refine (cK _ _).mono ?_; rintro e w' ⟨rfl, rfl⟩)
    | (gi_at_call 52; refine cS.mono ?_; rintro e w' ⟨v, ss, rfl, hS, hrow, hnil, hb⟩))
  go_ret
  have hp : ss.Perm (d.map (·.1)) := hS.trans HPERM.out
  have he : ss.mergeSort (fun x y => decide (x ≤ y)) = d.map (·.1) := by
    rw [mergeSort_of_perm hp]
    exact List.mergeSort_of_pairwise (List.pairwise_map.2 (HSRT.out.imp fun h => nl_le h))
  have hln : ss.length = d.length := by rw [hp.length_eq, List.length_map]
  rw [he, hln, List.map_map] at hrow
  have hbel : Below w.heap.size w w' := ((Below.refl _ w).alloc (Nat.le_refl _) _).trans (hb.mono (by simp))
  refine ⟨v, rfl, Sl.of_own hrow, Only.of_below hbel _, fun g hg => ?_⟩
  rcases hrow.2 with ⟨e, _⟩ | ⟨g', cap, cur, e, hge, _⟩
  · rw [e] at hg; cases hg
  · rw [e] at hg
    injection hg with hg
    have hg2 : g' = g := hg
    simp at hge
    omega
end Go.Proofs.Ythekilgolelomaa
