/-
  An item's plain value, in memory of its own.
-/
import Derived.Test.YtffdfegelgpniaaBa
import Derived.Test.YtffdfegelgpniaaPa
set_option linter.unusedSimpArgs false
set_option linter.unusedVariables false
namespace Go.Proofs.Ytffdfegelgpniaa
open Go.RowKit Go.Fl

def I.f_plain : I → FuncId
  | .void => 92 | .truth _ => 97 | .whole _ => 104 | .number _ => 112 | .text _ => 122 | .list _ => 130
theorem m_plain {w : World} {F : Nat → Prop} {x : I} {u : Value} (h : IIs w F x u) (w' : World) : (method 235 x.typ u "flume/value.plain").run Try.prog w' = .ok (x.f_plain, u) w' := by
  cases h with
  | void => kernel_rfl
  | truth => kernel_rfl
  | whole => kernel_rfl
  | number => kernel_rfl
  | text => kernel_rfl
  | list => kernel_rfl
theorem c_plain (x : I) (args : Array Value) (w : World) : (callFunc x.f_plain args).run Try.prog w = .ok (.enter x.f_plain args) w := by
  cases x <;> kernel_rfl
def PlainPost (w : World) (x : I) (e : Ending) (w' : World) : Prop := ∃ cs S, e = .returned (.agg cs.toArray) ∧ VO w' x.toV cs S ∧ S.Nodup ∧ (∀ g ∈ S, w.heap.size ≤ g) ∧ Only [] w w'
def PlainOk (x : I) : Prop := ∀ (w : World) (F : Nat → Prop) (u : Value), IIs w F x u → x.size ≤ 65536 → Calls Try.prog x.f_plain #[u] w (PlainPost w x)
theorem sizes_len : ∀ (l : List I), l.length ≤ sizes l
  | [] => Nat.zero_le _
  | x :: l => by
    have h1 := I.size_pos x
    have h2 := sizes_len l
    simp only [sizes, List.length_cons]
    omega
theorem canR_lt {b : Nat} (h : b < 18446744073709551616) : canR b < 18446744073709551616 := by
  unfold canR
  split <;> omega
set_option maxRecDepth 100000 in
theorem plain_void : PlainOk .void := by
  intro w F u hu hs
  cases hu
  show Calls Try.prog 92 _ w (PlainPost w .void)
  go_enter Try.func92, Try.ntmps92
  go_wp2_with (refine wpList_store_blk rfl 33 (.tmp 2) (.tmp 3) rfl [iv 1, iv 0, fv 0, .string ⟨#[]⟩, .slice none 0 0] rfl rfl (by have h := Blk.new (w.alloc (.cells #[] 103)) 33 zeroV.toArray; rw [show (w.alloc (.cells #[] 103)).heap.size = w.heap.size + 1 by simp] at h; exact h) (by kernel_rfl) (by simp) (by simp [Value.oneCell']) ?_)
  intro w1 hB hO
  have HB := Lib.hid hB
  have HO := Lib.hid (show Only [] w w1 from (((Only.refl [] w).alloc _).alloc _).trans' hO (fun i hi => .inr (by simp at hi; omega)))
  clear hB hO
  go_wp2
  exact bodyPost_ret (results1 rfl (res_blk (cs := [iv 1, iv 0, fv 0, .string ⟨#[]⟩, .slice none 0 0]) Try.underlying33 (by kernel_rfl) rfl HB.out)) rfl ⟨_, [], rfl, VO.plain (by decide) (by decide) (by omega) (Nat.zero_le _), List.nodup_nil, (fun g hg => by cases hg), HO.out⟩
set_option maxRecDepth 100000 in
theorem plain_truth (t : Int) : PlainOk (.truth t) := by
  intro w F u hu hs
  cases hu with
  | truth _ ht =>
  show Calls Try.prog 97 _ w (PlainPost w (.truth t))
  go_enter Try.func97, Try.ntmps97
  go_wp2_with (refine wpList_store_blk rfl 33 (.tmp 2) (.tmp 4) rfl [iv 2, iv t, fv 0, .string ⟨#[]⟩, .slice none 0 0] rfl rfl (by have h := Blk.new w 33 zeroV.toArray; exact h) (by kernel_rfl) (by simp) (by simp [Value.oneCell']) ?_)
  intro w1 hB hO
  have HB := Lib.hid hB
  have HO := Lib.hid (show Only [] w w1 from ((Only.refl [] w).alloc _).trans' hO (fun i hi => .inr (by simp at hi; omega)))
  clear hB hO
  go_wp2
  exact bodyPost_ret (results1 rfl (res_blk (cs := [iv 2, iv t, fv 0, .string ⟨#[]⟩, .slice none 0 0]) Try.underlying33 (by kernel_rfl) rfl HB.out)) rfl ⟨_, [], rfl, VO.plain (by decide) ht (by omega) (Nat.zero_le _), List.nodup_nil, (fun g hg => by cases hg), HO.out⟩
set_option maxRecDepth 100000 in
theorem plain_whole (t : Int) : PlainOk (.whole t) := by
  intro w F u hu hs
  cases hu with
  | whole _ ht =>
  show Calls Try.prog 104 _ w (PlainPost w (.whole t))
  go_enter Try.func104, Try.ntmps104
  go_wp2_with (refine wpList_store_blk rfl 33 (.tmp 2) (.tmp 4) rfl [iv 3, iv t, fv 0, .string ⟨#[]⟩, .slice none 0 0] rfl rfl (by have h := Blk.new w 33 zeroV.toArray; exact h) (by kernel_rfl) (by simp) (by simp [Value.oneCell']) ?_)
  intro w1 hB hO
  have HB := Lib.hid hB
  have HO := Lib.hid (show Only [] w w1 from ((Only.refl [] w).alloc _).trans' hO (fun i hi => .inr (by simp at hi; omega)))
  clear hB hO
  go_wp2
  exact bodyPost_ret (results1 rfl (res_blk (cs := [iv 3, iv t, fv 0, .string ⟨#[]⟩, .slice none 0 0]) Try.underlying33 (by kernel_rfl) rfl HB.out)) rfl ⟨_, [], rfl, VO.plain (by decide) ht (by omega) (Nat.zero_le _), List.nodup_nil, (fun g hg => by cases hg), HO.out⟩
set_option maxRecDepth 100000 in
theorem plain_number (b : Nat) : PlainOk (.number b) := by
  intro w F u hu hs
  cases hu with
  | number _ hb =>
  show Calls Try.prog 112 _ w (PlainPost w (.number b))
  go_enter Try.func112, Try.ntmps112
  go_wp2_with fail
  refine (realCanon _ b).mono ?_
  rintro e w0 ⟨rfl, rfl⟩
  go_wp2_with (refine wpList_store_blk rfl 33 (.tmp 2) (.tmp 5) rfl [iv 4, iv 0, fv (canR b), .string ⟨#[]⟩, .slice none 0 0] rfl rfl (by have h := Blk.new w 33 zeroV.toArray; exact h) (by kernel_rfl) (by simp) (by simp [Value.oneCell']) ?_)
  intro w1 hB hO
  have HB := Lib.hid hB
  have HO := Lib.hid (show Only [] w w1 from ((Only.refl [] w).alloc _).trans' hO (fun i hi => .inr (by simp at hi; omega)))
  clear hB hO
  go_wp2
  exact bodyPost_ret (results1 rfl (res_blk (cs := [iv 4, iv 0, fv (canR b), .string ⟨#[]⟩, .slice none 0 0]) Try.underlying33 (by kernel_rfl) rfl HB.out)) rfl ⟨_, [], rfl, VO.plain (by decide) (by decide) (canR_lt hb) (Nat.zero_le _), List.nodup_nil, (fun g hg => by cases hg), HO.out⟩
set_option maxRecDepth 100000 in
theorem plain_text (t : ByteArray) : PlainOk (.text t) := by
  intro w F u hu hs
  cases hu with
  | text _ ht =>
  show Calls Try.prog 122 _ w (PlainPost w (.text t))
  go_enter Try.func122, Try.ntmps122
  go_wp2_with (refine wpList_store_blk rfl 33 (.tmp 2) (.tmp 4) rfl [iv 5, iv 0, fv 0, .string t, .slice none 0 0] rfl rfl (by have h := Blk.new w 33 zeroV.toArray; exact h) (by kernel_rfl) (by simp) (by simp [Value.oneCell']) ?_)
  intro w1 hB hO
  have HB := Lib.hid hB
  have HO := Lib.hid (show Only [] w w1 from ((Only.refl [] w).alloc _).trans' hO (fun i hi => .inr (by simp at hi; omega)))
  clear hB hO
  go_wp2
  exact bodyPost_ret (results1 rfl (res_blk (cs := [iv 5, iv 0, fv 0, .string t, .slice none 0 0]) Try.underlying33 (by kernel_rfl) rfl HB.out)) rfl ⟨_, [], rfl, VO.plain (by decide) (by decide) (by omega) ht, List.nodup_nil, (fun g hg => by cases hg), HO.out⟩
end Go.Proofs.Ytffdfegelgpniaa
