/-
  The document's own queue: Look.
-/
import Derived.Test.YtlkfkdcdokinpaaRg
import Derived.Deep.RegionHeld3
namespace Go.Proofs.Ytlkfkdcdokinpaa
open Go.RowKit Go.Fl

set_option maxRecDepth 100000 in
set_option maxHeartbeats 1600000 in
theorem rlook_ok {r : Nat} {cap bytes : Int} {held line : List Item} {S : List Nat} (w : World) (h : RIs w r S cap bytes held line) :
    Calls Try.prog 39 #[.pointer (some ⟨r, 0, none⟩)] w fun e w' => e = .returned (lookV held.length (sum held) line.length) ∧ Only [] w w' := by
  obtain ⟨iv, lv, h, _⟩ := h
  have hl1 := h.okh.len
  have hl4 := h.okh.cap1
  have hl3 := h.lenl
  have HC := Lib.hid (rsum_ok ((w.alloc (.cells #[.int .i64 0, .int .i64 0, .int .i64 0] 40)).drew) (h.I.alloc _).drew (by omega) h.okh.sized)
  obtain ⟨a, c, hiv, _, _⟩ := h.I.shape
  obtain ⟨a2, c2, hlv, _, _⟩ := h.L.shape
  have HB := Lib.hid h.B
  clear h
  subst hiv
  subst hlv
  have HK := Lib.hid (show ∀ u : Array Value, ((w.alloc (.cells u 40)).drew).cell? ⟨r, 2, none⟩ = some (.slice a held.length c) ∧ ((w.alloc (.cells u 40)).drew).cell? ⟨r, 3, none⟩ = some (.slice a2 line.length c2) from fun u => ⟨(HB.out.alloc _).drew.cell 2, (HB.out.alloc _).drew.cell 3⟩)
  have HNE := HB.out.lt
  go_enter Try.func39, Try.ntmps39
  go_wp2
  go_region_held3 (fun w' => w'.cell? ⟨r, 2, none⟩ = some (.slice a held.length c) ∧ w'.cell? ⟨r, 3, none⟩ = some (.slice a2 line.length c2)) (first | exact HK.out _ | go_keep)
    (first | (go_at_call 32; refine HC.out.mono ?_; rintro e w1 ⟨rfl, rfl⟩))
  go_wp2
  refine bodyPost_ret (v := lookV held.length (sum held) line.length) ?_ rfl ⟨rfl, ?_⟩
  · refine results1 rfl (res_blk Try.underlying40 (by kernel_rfl) rfl (cs := [.int .i64 held.length, .int .i64 (sum held), .int .i64 line.length]) ?_)
    exact (Blk.new w 40 _).drew
  · (repeat (first | with_reducible exact Only.refl _ _ | with_reducible exact Only.refl [] w | with_reducible refine Only.drew ?_ | with_reducible refine Only.drewN ?_ _ | with_reducible refine Only.alloc ?_ _ | ((with_reducible refine Only.setCell ?_ ?_ _); rotate_left; (focus (first | (left; simp; done) | (right; simp; done) | (right; simp; omega) | (right; omega))))))
end Go.Proofs.Ytlkfkdcdokinpaa
