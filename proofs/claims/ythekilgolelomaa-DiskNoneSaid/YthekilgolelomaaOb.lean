/-
  Arguments opened: a slice of calls on a disk.
-/
import Derived.Test.YthekilgolelomaaOa
set_option linter.unusedSimpArgs false
set_option linter.unusedVariables false
namespace Go.Proofs.Ythekilgolelomaa
open Go.RowKit Go.Fl Go.ChangeShapes Go.WideShapes Go.Deep

/-- A call on a disk, as an argument. -/
structure OpA where
  kind : Int
  second : Bool
  name : Nm
  nto : Nm
  dv : Value
  data : List UInt8
  off : Int
  n : Int
  fv : Value
  faults : List Flt
  dir : Int
  kv : Value
  kj : List Kp
def OpA.cells (o : OpA) : List Value := [iv o.kind, .bool o.second, sk o.name, sk o.nto, o.dv, iv o.off, iv o.n, o.fv, iv o.dir, o.kv]
structure OpA.In (w : World) (o : OpA) : Prop where
  data : Sr w 1 o.dv o.data.length (byV o.data)
  flt : Sr w 3 o.fv o.faults.length (fcs o.faults)
  ks : KS w o.kv o.kj
theorem OpA.In.only0 {w w' : World} {o : OpA} (h : o.In w) (ho : Only [] w w') : o.In w' := ⟨h.data.only0 ho, h.flt.only0 ho, h.ks.only0 ho⟩
section
variable {H : Type} {enc : TypeId × Value → H} {w : World}
theorem sk_of (s : ByteArray) : Value.string s = sk s.data.toList := by simp
theorem ten_of : ∀ {l : List Value}, l.length = 10 → ∃ a b c d e f g h i j, l = [a, b, c, d, e, f, g, h, i, j]
  | [a, b, c, d, e, f, g, h, i, j], _ => ⟨a, b, c, d, e, f, g, h, i, j, rfl⟩
set_option maxRecDepth 100000 in
theorem trod_flts {fuel : Nat} {cs : List Value} {x : DataW H × List MemPlace} (h : DataW.trod enc Try.prog w 0 (fun _ => true) true fuel 30 cs = some x) : ∃ (v : Value) (l : List Flt), cs = [v] ∧ Sr w 3 v l.length (fcs l) := by
  have c36 : Try.prog.cellsOf 83 = 3 := by kernel_rfl
  have c2 : Try.prog.cellsOf 2 = 1 := by kernel_rfl
  have c3 : Try.prog.cellsOf 3 = 1 := by kernel_rfl
  obtain ⟨v, l, rfl, hs, hp⟩ := trod_sl (α := Flt) (p := fun cs y => cs = [iv y.1, iv y.2.1, iv y.2.2]) Try.underlying30 c36 (by decide) (fun fuel cs x hd => by
    obtain ⟨xs, n, _, _, hl, hlen, hf⟩ := DataW.trod_struct Try.underlying83 hd
    have hlen : xs.length = 3 := hlen
    rw [c36] at hl
    have d0 : DataW.trod enc Try.prog w 0 (fun _ => true) true n 2 ((cs.drop 0).take (Try.prog.cellsOf 2)) = xs[0]? := hf 0 _ rfl
    have d1 : DataW.trod enc Try.prog w 0 (fun _ => true) true n 3 ((cs.drop 1).take (Try.prog.cellsOf 3)) = xs[1]? := hf 1 _ rfl
    have d2 : DataW.trod enc Try.prog w 0 (fun _ => true) true n 3 ((cs.drop 2).take (Try.prog.cellsOf 3)) = xs[2]? := hf 2 _ rfl
    rw [c2] at d0
    rw [c3] at d1 d2
    match cs, hl with
    | [a, b, c], _ =>
      obtain ⟨z0, hz0⟩ : ∃ z, xs[0]? = some z := ⟨_, List.getElem?_eq_getElem (by omega)⟩
      obtain ⟨z1, hz1⟩ : ∃ z, xs[1]? = some z := ⟨_, List.getElem?_eq_getElem (by omega)⟩
      obtain ⟨z2, hz2⟩ : ∃ z, xs[2]? = some z := ⟨_, List.getElem?_eq_getElem (by omega)⟩
      rw [hz0] at d0
      rw [hz1] at d1
      rw [hz2] at d2
      obtain ⟨a', e0, _, _⟩ := DataW.trod_int Try.underlying2 d0
      obtain ⟨b', e1, _, _⟩ := DataW.trod_int Try.underlying3 d1
      obtain ⟨c', e2, _, _⟩ := DataW.trod_int Try.underlying3 d2
      simp at e0 e1 e2
      exact ⟨(a', b', c'), by rw [e0, e1, e2]⟩) h
  refine ⟨v, l.map (·.2), rfl, ?_⟩
  have e : (l.map (·.1)).flatten = fcs (l.map (·.2)) := by
    unfold fcs
    rw [List.map_map]
    congr 1
    exact List.map_congr_left fun y hy => (hp y hy).2
  rw [e] at hs
  simpa using hs
set_option maxRecDepth 100000 in
theorem trod_op {fuel : Nat} {cs : List Value} {x : DataW H × List MemPlace} (h : DataW.trod enc Try.prog w 0 (fun _ => true) true fuel 35 cs = some x) : ∃ o : OpA, cs = o.cells ∧ o.In w := by
  have c51 : Try.prog.cellsOf 35 = 10 := by kernel_rfl
  have c3 : Try.prog.cellsOf 3 = 1 := by kernel_rfl
  have c4 : Try.prog.cellsOf 4 = 1 := by kernel_rfl
  have c5 : Try.prog.cellsOf 5 = 1 := by kernel_rfl
  have c9 : Try.prog.cellsOf 9 = 1 := by kernel_rfl
  have c28 : Try.prog.cellsOf 29 = 1 := by kernel_rfl
  have c49 : Try.prog.cellsOf 30 = 1 := by kernel_rfl
  have c41 : Try.prog.cellsOf 31 = 1 := by kernel_rfl
  have c43 : Try.prog.cellsOf 33 = 2 := by kernel_rfl
  have c76 : Try.prog.cellsOf 75 = 2 := by kernel_rfl
  obtain ⟨xs, n, _, _, hl, hlen, hf⟩ := DataW.trod_struct Try.underlying35 h
  rw [c51] at hl
  obtain ⟨v0, v1, v2, v3, v4, v5, v6, v7, v8, v9, rfl⟩ := ten_of hl
  have hlen : xs.length = 9 := hlen
  have hx : ∀ i, i < 9 → ∃ z, xs[i]? = some z := fun i hi => ⟨_, List.getElem?_eq_getElem (by omega)⟩
  obtain ⟨z0, hz0⟩ := hx 0 (by decide)
  obtain ⟨z1, hz1⟩ := hx 1 (by decide)
  obtain ⟨z2, hz2⟩ := hx 2 (by decide)
  obtain ⟨z3, hz3⟩ := hx 3 (by decide)
  obtain ⟨z4, hz4⟩ := hx 4 (by decide)
  obtain ⟨z5, hz5⟩ := hx 5 (by decide)
  obtain ⟨z6, hz6⟩ := hx 6 (by decide)
  obtain ⟨z7, hz7⟩ := hx 7 (by decide)
  obtain ⟨z8, hz8⟩ := hx 8 (by decide)
  have d0 : DataW.trod enc Try.prog w 0 (fun _ => true) true n 3 (([v0, v1, v2, v3, v4, v5, v6, v7, v8, v9].drop 0).take (Try.prog.cellsOf 3)) = xs[0]? := hf 0 _ rfl
  have d1 : DataW.trod enc Try.prog w 0 (fun _ => true) true n 4 (([v0, v1, v2, v3, v4, v5, v6, v7, v8, v9].drop 1).take (Try.prog.cellsOf 4)) = xs[1]? := hf 1 _ rfl
  have d2 : DataW.trod enc Try.prog w 0 (fun _ => true) true n 9 (([v0, v1, v2, v3, v4, v5, v6, v7, v8, v9].drop 2).take (Try.prog.cellsOf 9)) = xs[2]? := hf 2 _ rfl
  have d3 : DataW.trod enc Try.prog w 0 (fun _ => true) true n 9 (([v0, v1, v2, v3, v4, v5, v6, v7, v8, v9].drop 3).take (Try.prog.cellsOf 9)) = xs[3]? := hf 3 _ rfl
  have d4 : DataW.trod enc Try.prog w 0 (fun _ => true) true n 29 (([v0, v1, v2, v3, v4, v5, v6, v7, v8, v9].drop 4).take (Try.prog.cellsOf 29)) = xs[4]? := hf 4 _ rfl
  have d5 : DataW.trod enc Try.prog w 0 (fun _ => true) true n 3 (([v0, v1, v2, v3, v4, v5, v6, v7, v8, v9].drop 5).take (Try.prog.cellsOf 3)) = xs[5]? := hf 5 _ rfl
  have d6 : DataW.trod enc Try.prog w 0 (fun _ => true) true n 3 (([v0, v1, v2, v3, v4, v5, v6, v7, v8, v9].drop 6).take (Try.prog.cellsOf 3)) = xs[6]? := hf 6 _ rfl
  have d7 : DataW.trod enc Try.prog w 0 (fun _ => true) true n 30 (([v0, v1, v2, v3, v4, v5, v6, v7, v8, v9].drop 7).take (Try.prog.cellsOf 30)) = xs[7]? := hf 7 _ rfl
  have d8 : DataW.trod enc Try.prog w 0 (fun _ => true) true n 33 (([v0, v1, v2, v3, v4, v5, v6, v7, v8, v9].drop 8).take (Try.prog.cellsOf 33)) = xs[8]? := hf 8 _ rfl
  rw [c3, hz0] at d0
  rw [c4, hz1] at d1
  rw [c9, hz2] at d2
  rw [c9, hz3] at d3
  rw [c28, hz4] at d4
  rw [c3, hz5] at d5
  rw [c3, hz6] at d6
  rw [c49, hz7] at d7
  rw [c43, hz8] at d8
  obtain ⟨kind, e0, _, _⟩ := DataW.trod_int Try.underlying3 d0
  obtain ⟨second, e1, _⟩ := DataW.trod_bool Try.underlying4 d1
  obtain ⟨name, e2, _, _⟩ := DataW.trod_string Try.underlying9 d2
  obtain ⟨tn, e3, _, _⟩ := DataW.trod_string Try.underlying9 d3
  obtain ⟨dv, data, e4, hd⟩ := trod_by Try.underlying29 c5 Try.underlying5 d4
  obtain ⟨off, e5, _, _⟩ := DataW.trod_int Try.underlying3 d5
  obtain ⟨nn, e6, _, _⟩ := DataW.trod_int Try.underlying3 d6
  obtain ⟨fv, faults, e7, hfl⟩ := trod_flts d7
  obtain ⟨y0, y1, n2, _, _, f0, f1⟩ := trod_struct2 Try.underlying33 d8
  change DataW.trod enc Try.prog w 0 (fun _ => true) true n2 3 (List.take (Try.prog.cellsOf 3) (List.drop 0 _)) = some y0 at f0
  change DataW.trod enc Try.prog w 0 (fun _ => true) true n2 31 (List.take (Try.prog.cellsOf 31) (List.drop 1 _)) = some y1 at f1
  rw [c3] at f0
  rw [c41] at f1
  obtain ⟨dir, e8, _, _⟩ := DataW.trod_int Try.underlying3 f0
  obtain ⟨kv, kj, e9, hk⟩ := trod_ks Try.underlying75 c76 rfl rfl Try.underlying3 c3 c28 Try.underlying29 c5 Try.underlying5 Try.underlying31 f1
  simp at e0 e1 e2 e3 e4 e5 e6 e7 e8 e9
  refine ⟨⟨kind, second, name.data.toList, tn.data.toList, dv, data, off, nn, fv, faults, dir, kv, kj⟩, ?_, hd, hfl, hk⟩
  unfold OpA.cells
  dsimp only
  rw [e0, e1, e2, e3, e4, e5, e6, e7, e8, e9, sk_of name, sk_of tn]
/-- A slice of calls. -/
def ocs (l : List OpA) : List Value := (l.map OpA.cells).flatten
def OpS (w : World) (v : Value) (l : List OpA) : Prop := Sr w 10 v l.length (ocs l) ∧ ∀ o ∈ l, o.In w
theorem OpS.only0 {w w' : World} {v : Value} {l : List OpA} (h : OpS w v l) (ho : Only [] w w') : OpS w' v l := ⟨h.1.only0 ho, fun o hm => (h.2 o hm).only0 ho⟩
set_option maxRecDepth 100000 in
theorem open_ops {r : Reach} {b0 : Nat} {v : Value} {d : DataW H} {ps : List MemPlace} (hval : Value.okWide Try.prog w r b0 22 v) (h : DataW.Trod enc Try.prog w 0 (fun _ => true) true 22 v d ps) : ∃ l, OpS w v l := by
  obtain ⟨fuel, h⟩ := h
  obtain ⟨v', l, e, hs, hp⟩ := trod_sl (α := OpA) (p := fun cs y => cs = y.cells ∧ y.In w) Try.underlying22 (k := 10) (by kernel_rfl) (by decide) (fun fuel cs x hd => by
    obtain ⟨o, e, ho⟩ := trod_op hd
    exact ⟨o, e, ho⟩) h
  rw [one_val Try.underlying22 hval] at e
  injection e with e
  subst e
  refine ⟨l.map (·.2), ?_, fun o hm => ?_⟩
  · have e : (l.map (·.1)).flatten = ocs (l.map (·.2)) := by
      unfold ocs
      rw [List.map_map]
      congr 1
      exact List.map_congr_left fun y hy => (hp y hy).2.1
    rw [e] at hs
    simpa using hs
  · obtain ⟨z, hz, rfl⟩ := List.mem_map.1 hm
    exact (hp z hz).2.2
theorem ocs_get (l : List OpA) (i j : Nat) (hi : i < l.length) (hj : j < 10) : (ocs l)[i * 10 + j]? = (l[i]).cells[j]? := by
  unfold ocs
  rw [flat_get (k := 10) (by decide) _ (fun y hy => by obtain ⟨o, _, rfl⟩ := List.mem_map.1 hy; rfl)]
  have h1 : (i * 10 + j) / 10 = i := by omega
  have h2 : (i * 10 + j) % 10 = j := by omega
  rw [h1, h2, List.getElem?_map, List.getElem?_eq_getElem hi]
  rfl
end
end Go.Proofs.Ythekilgolelomaa
