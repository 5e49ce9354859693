/- codec.Encode: just what 'enc' tells. -/
import Derived.Test.YtpakcmcoafbgkaaCt
namespace Go.Proofs.Ytpakcmcoafbgkaa.Cx
open Go.RowKit
theorem Chk.ri {w : World} {g : Nat} {cs : List Int} (h : Chk w g cs) : RI .u8 w (.slice (some ⟨g, 0, none⟩) 32768 32768) cs := by
  have hl := h.len.out
  refine ⟨_, _, by rw [hl], by rw [hl]; exact Nat.le_refl _, by omega, fun j hj => ⟨_, rfl, ?_⟩⟩
  rw [adp, Nat.zero_add, cell_of_row w g j _ _ _ h.blk]
  have := nums_at (k := .u8) hj
  simpa using this
/-- A chunk's Bytes: a new row of its cells. -/
theorem bytes_any (g : Nat) (cs : List Int) (w : World) (h : Chk w g cs) : Calls Try.prog 14 #[.pointer (some ⟨g, 0, none⟩)] w (NewRow .u8 5 cs w) := by
  have H := Lib.hid h
  clear h
  go_enter Try.func14, Try.ntmps14
  go_wp2_with fail
  refine (clone_any _ cs w H.out.ri (by rw [H.out.len.out]; omega)).mono ?_
  rintro e w1 ⟨v1, rfl, hO, hb⟩
  go_wp2_with fail
  go_ret
  exact ⟨v1, rfl, hO, hb⟩
end Go.Proofs.Ytpakcmcoafbgkaa.Cx
