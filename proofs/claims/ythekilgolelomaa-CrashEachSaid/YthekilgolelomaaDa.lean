/-
  The disk in plain words, and in memory.
-/
import Derived.Test.YthekilgolelomaaDir
import Derived.Test.YthekilgolelomaaSr
import Derived.Test.YthekilgolelomaaArgs3
import Derived.Test.YthekilgolelomaaLex4
import Derived.Test.YthekilgolelomaaProg
set_option linter.unusedSimpArgs false
set_option linter.unusedVariables false
namespace Go.Proofs.Ythekilgolelomaa
open Go.RowKit Go.Fl

abbrev iv (n : Int) : Value := .int .i64 n
abbrev cp (d : Nat) : Value := .pointer (some ⟨d, 0, none⟩)
/-- A change that pends. -/
inductive Chg where
  | cr (s : Nm) (f : Nat)
  | rn (a b : Nm)
  | rm (s : Nm)
def chgV : Chg → Value
  | .cr s f => .iface 89 (.agg #[sk s, fp f])
  | .rn a b => .iface 93 (.agg #[sk a, sk b])
  | .rm s => .iface 95 (.agg #[sk s])
/-- A directory behind a change. -/
def Chg.do_ (d : Dir) : Chg → Dir
  | .cr s f => d.put s f
  | .rn a b => match d.get a with
    | some f => (d.del a).put b f
    | none => d
  | .rm s => d.del s
/-- Nobody's file is renamed. -/
def Chg.ok (d : Dir) : Chg → Prop
  | .rn a _ => (d.get a).isSome = true
  | _ => True
def Chg.ids : Chg → List Nat
  | .cr _ f => [f]
  | _ => []
def doAll (d : Dir) (l : List Chg) : Dir := l.foldl Chg.do_ d
/-- Each renames what is there. -/
def okAll : Dir → List Chg → Prop
  | _, [] => True
  | d, c :: l => c.ok d ∧ okAll (c.do_ d) l
theorem Chg.srt {d : Dir} (h : Dir.Srt d) (c : Chg) : Dir.Srt (c.do_ d) := by
  cases c with
  | cr s f => exact h.put s f
  | rn a b =>
    show Dir.Srt (match d.get a with | some f => (d.del a).put b f | none => d)
    split
    · exact (h.del a).put b _
    · exact h
  | rm s => exact h.del s
theorem doAll_srt {d : Dir} (h : Dir.Srt d) : ∀ (l : List Chg), Dir.Srt (doAll d l)
  | [] => h
  | c :: l => by
    show Dir.Srt (doAll (c.do_ d) l)
    exact doAll_srt (c.srt h) l
theorem doAll_snoc (d : Dir) (l : List Chg) (c : Chg) : doAll d (l ++ [c]) = c.do_ (doAll d l) := by
  unfold doAll
  rw [List.foldl_append]
  rfl
theorem okAll_snoc {c : Chg} : ∀ {d : Dir} {l : List Chg}, okAll d l → c.ok (doAll d l) → okAll d (l ++ [c])
  | _, [], _, h => ⟨h, trivial⟩
  | _, _ :: _, h, k => ⟨h.1, okAll_snoc h.2 k⟩
/-- Operations are counted. -/
structure Cnt where
  cr : Int
  ap : Int
  sy : Int
  cu : Int
  rn : Int
  rm : Int
  ds : Int
  all : Int
  by_ : Int
def Cnt.cells (c : Cnt) : List Value := [iv c.cr, iv c.ap, iv c.sy, iv c.cu, iv c.rn, iv c.rm, iv c.ds, iv c.all, iv c.by_]
def Cnt.zero : Cnt := ⟨0, 0, 0, 0, 0, 0, 0, 0, 0⟩
/-- Faults: at, kind, part. -/
abbrev Flt := Int × Int × Int
def fcs (l : List Flt) : List Value := (l.map fun x => [iv x.1, iv x.2.1, iv x.2.2]).flatten
def fltV (x : Flt) : Value := .agg #[iv x.1, iv x.2.1, iv x.2.2]
/-- A disk. -/
structure PD where
  up : Bool
  most : Int
  now : Dir
  last : Dir
  pend : List Chg
  cnt : Cnt
  faults : List Flt
  since : Int
/-- A file. -/
structure FD where
  b : List UInt8
  lasts : List UInt8
  marked : Nat
def byV (l : List UInt8) : List Value := l.map fun c => Value.int .u8 c.toNat
/-- What holds of a disk. -/
structure PD.Ok (p : PD) : Prop where
  snow : Dir.Srt p.now
  slast : Dir.Srt p.last
  go : doAll p.last p.pend = p.now
  ok : okAll p.last p.pend
  len : p.now.length ≤ 256 ∧ p.last.length ≤ 256
  flt : p.faults.length ≤ 64
  most : 0 ≤ p.most ∧ p.most ≤ 16777216
  pre : ∀ n, (doAll p.last (p.pend.take n)).length ≤ 256 ∧ ∀ x ∈ doAll p.last (p.pend.take n), x.1.length ≤ 64
theorem PD.Ok.names {p : PD} (h : p.Ok) : ∀ x ∈ p.now, x.1.length ≤ 64 := by
  have h1 := (h.pre p.pend.length).2
  rw [List.take_length, h.go] at h1
  exact h1
theorem PD.Ok.names0 {p : PD} (h : p.Ok) : ∀ x ∈ p.last, x.1.length ≤ 64 := (h.pre 0).2
def FD.Ok (f : FD) : Prop := f.lasts.length ≤ f.b.length ∧ f.marked ≤ f.b.length ∧ f.b.length ≤ 1073741824
/-- What may have turned. -/
structure Turn (F : Nat → Prop) (w w' : World) : Prop where
  os : w'.os = w.os
  tape : w'.tape = w.tape
  output : w'.output = w.output
  size : w.heap.size ≤ w'.heap.size
  block : ∀ k, k < w.heap.size → ¬ F k → w'.heap[k]? = w.heap[k]?
theorem Turn.refl (F : Nat → Prop) (w : World) : Turn F w w := ⟨rfl, rfl, rfl, Nat.le_refl _, fun _ _ _ => rfl⟩
theorem Turn.trans {F G : Nat → Prop} {a b c : World} (h : Turn F a b) (k : Turn G b c) (hG : ∀ i, G i → F i ∨ a.heap.size ≤ i) : Turn F a c :=
  ⟨k.os.trans h.os, k.tape.trans h.tape, k.output.trans h.output, Nat.le_trans h.size k.size, fun i hi hF => (k.block i (Nat.lt_of_lt_of_le hi h.size) fun hg => by
    rcases hG i hg with e | e
    · exact hF e
    · omega).trans (h.block i hi hF)⟩
theorem Turn.of {S : List Nat} {F : Nat → Prop} {w w' : World} (h : Only S w w') (hS : ∀ i ∈ S, F i ∨ w.heap.size ≤ i) : Turn F w w' :=
  ⟨h.os, h.tape, h.output, h.size, fun k hk hF => h.block k hk fun hm => by
    rcases hS k hm with e | e
    · exact hF e
    · omega⟩
theorem Turn.only {F : Nat → Prop} {w0 w w' : World} (h : Only [] w0 w) (k : Turn F w w') (hF : ∀ i, F i → w0.heap.size ≤ i) : Only [] w0 w' :=
  ⟨k.os.trans h.os, k.tape.trans h.tape, k.output.trans h.output, Nat.le_trans h.size k.size, fun i hi _ => (k.block i (Nat.lt_of_lt_of_le hi h.size) fun hf => by
    have := hF i hf
    omega).trans (h.block i hi (by simp))⟩
def dcells (p : PD) (nb lb : Nat) (pv fv : Value) : Array Value :=
  #[.bool true, .bool p.up, iv p.most, .map (some nb), .map (some lb), pv, iv p.cnt.cr, iv p.cnt.ap, iv p.cnt.sy, iv p.cnt.cu, iv p.cnt.rn, iv p.cnt.rm, iv p.cnt.ds, iv p.cnt.all, iv p.cnt.by_, fv, iv p.since]
/-- A file in memory. -/
structure FM (w : World) (i : Nat) (f : FD) (bv lv : Value) : Prop where
  blk : Blk w i 87 #[bv, lv, iv f.marked]
  b : Sl w 5 1 bv f.b.length (byV f.b)
  l : Sl w 5 1 lv f.lasts.length (byV f.lasts)
  ok : f.Ok
/-- The files ids: each in memory of its own. -/
structure FS (w : World) (F : Nat → Prop) (ids : Nat → Prop) (fs : Nat → FD) (bv lv : Nat → Value) : Prop where
  file : ∀ i, ids i → FM w i (fs i) (bv i) (lv i)
  s1 : ∀ i j g, ids i → ids j → (bv i).ownBlock = some g → (lv j).ownBlock ≠ some g
  s2 : ∀ i j g, ids i → ids j → i ≠ j → (bv i).ownBlock = some g → (bv j).ownBlock ≠ some g
  s3 : ∀ i j g, ids i → ids j → i ≠ j → (lv i).ownBlock = some g → (lv j).ownBlock ≠ some g
  fi : ∀ i, ids i → F i
  fb : ∀ i g, ids i → (bv i).ownBlock = some g → F g
  fl : ∀ i g, ids i → (lv i).ownBlock = some g → F g
/-- The disk's own memory. -/
structure DM (w : World) (F : Nat → Prop) (d : Nat) (p : PD) (nb lb : Nat) (pv fv : Value) : Prop where
  blk : Blk w d 59 (dcells p nb lb pv fv)
  now : DMap w nb p.now
  last : DMap w lb p.last
  ne : nb ≠ lb
  pend : Sl w 109 1 pv p.pend.length (p.pend.map chgV)
  flt : Sl w 83 3 fv p.faults.length (fcs p.faults)
  fd : F d
  fn : F nb
  fl : F lb
  fp_ : ∀ g, pv.ownBlock = some g → F g
  ff : ∀ g, fv.ownBlock = some g → F g
/-- The files that a disk knows. -/
structure Live (p : PD) (ids : Nat → Prop) : Prop where
  now : ∀ x ∈ p.now, ids x.2
  last : ∀ x ∈ p.last, ids x.2
  pend : ∀ c ∈ p.pend, ∀ i ∈ c.ids, ids i
/-- A disk in memory. -/
structure Dk (w : World) (F : Nat → Prop) (d : Nat) (p : PD) (fs : Nat → FD) (ids : Nat → Prop) (nb lb : Nat) (pv fv : Value) (bv lv : Nat → Value) : Prop where
  dm : DM w F d p nb lb pv fv
  fs : FS w F ids fs bv lv
  live : Live p ids
  ok : p.Ok
section
variable {w w' : World} {F : Nat → Prop} {d : Nat} {p : PD} {fs : Nat → FD} {ids : Nat → Prop} {nb lb : Nat} {pv fv : Value} {bv lv : Nat → Value}
theorem FM.keep {i : Nat} {f : FD} {b l : Value} (h : FM w i f b l) (hi : w'.heap[i]? = w.heap[i]?) (hb : ∀ g, b.ownBlock = some g → w'.heap[g]? = w.heap[g]?) (hl : ∀ g, l.ownBlock = some g → w'.heap[g]? = w.heap[g]?) : FM w' i f b l :=
  ⟨hi.trans h.blk, h.b.keep hb, h.l.keep hl, h.ok⟩
theorem FS.keep (h : FS w F ids fs bv lv) (hk : ∀ k, k < w.heap.size → F k → w'.heap[k]? = w.heap[k]?) : FS w' F ids fs bv lv :=
  ⟨fun i hi => (h.file i hi).keep (hk i (h.file i hi).blk.lt (h.fi i hi)) (fun g hg => hk g ((h.file i hi).b.lt g hg) (h.fb i g hi hg)) (fun g hg => hk g ((h.file i hi).l.lt g hg) (h.fl i g hi hg)), h.s1, h.s2, h.s3, h.fi, h.fb, h.fl⟩
theorem DM.keep (h : DM w F d p nb lb pv fv) (hk : ∀ k, k < w.heap.size → F k → w'.heap[k]? = w.heap[k]?) : DM w' F d p nb lb pv fv :=
  ⟨(hk d h.blk.lt h.fd).trans h.blk, h.now.keep (hk nb h.now.lt h.fn), h.last.keep (hk lb h.last.lt h.fl), h.ne, h.pend.keep fun g hg => hk g (h.pend.lt g hg) (h.fp_ g hg), h.flt.keep fun g hg => hk g (h.flt.lt g hg) (h.ff g hg), h.fd, h.fn, h.fl, h.fp_, h.ff⟩
theorem Dk.keep (h : Dk w F d p fs ids nb lb pv fv bv lv) (hk : ∀ k, k < w.heap.size → F k → w'.heap[k]? = w.heap[k]?) : Dk w' F d p fs ids nb lb pv fv bv lv := ⟨h.dm.keep hk, h.fs.keep hk, h.live, h.ok⟩
theorem Dk.only0 (h : Dk w F d p fs ids nb lb pv fv bv lv) (ho : Only [] w w') : Dk w' F d p fs ids nb lb pv fv bv lv := h.keep fun k hk _ => ho.block k hk (by simp)
/-- What others turn does not touch it. -/
theorem Dk.turn {G : Nat → Prop} (h : Dk w F d p fs ids nb lb pv fv bv lv) (ht : Turn G w w') (hd : ∀ k, k < w.heap.size → F k → ¬ G k) : Dk w' F d p fs ids nb lb pv fv bv lv := h.keep fun k hk hF => ht.block k hk (hd k hk hF)
theorem DM.mono {G : Nat → Prop} (h : DM w F d p nb lb pv fv) (hG : ∀ k, F k → G k) : DM w G d p nb lb pv fv := ⟨h.blk, h.now, h.last, h.ne, h.pend, h.flt, hG _ h.fd, hG _ h.fn, hG _ h.fl, fun g hg => hG _ (h.fp_ g hg), fun g hg => hG _ (h.ff g hg)⟩
theorem FS.mono {G : Nat → Prop} (h : FS w F ids fs bv lv) (hG : ∀ k, F k → G k) : FS w G ids fs bv lv := ⟨h.file, h.s1, h.s2, h.s3, fun i hi => hG _ (h.fi i hi), fun i g hi hg => hG _ (h.fb i g hi hg), fun i g hi hg => hG _ (h.fl i g hi hg)⟩
end
end Go.Proofs.Ythekilgolelomaa
