/- made; Encode of nil. -/
import Derived.Test.YtpakcmcoafbgkaaCx
import Derived.Test.YtpakcmcoafbgkaaCk
namespace Go.Proofs.Ytpakcmcoafbgkaa.Cx
open Go.RowKit
def MadeC (w : World) (cs : List Int) (e : Ending) (w' : World) : Prop := ∃ g, e = .returned (.pointer (some ⟨g, 0, none⟩)) ∧ Chk w' g cs ∧ w.heap.size ≤ g ∧ Below w.heap.size w w'
theorem made_any (v : Value) (b : List Int) (w : World) (h : RI .u8 w v b) (hk : Kinds b) (hl : (b.length : Int) = 32768) : Calls Try.prog 11 #[v] w (MadeC w b) := by
  have H := Lib.hid h
  have HK := Lib.hid hk
  have HL := Lib.hid hl
  clear h hk hl
  go_enter Try.func11, Try.ntmps11
  go_wp2_with fail
  refine (from_ok v b w H.out HK.out HL.out).mono ?_
  rintro e w1 ⟨g, rfl, hc, hg, hb⟩
  have HC := Lib.hid hc
  have HB := Lib.hid hb
  clear hc hb
  go_wp2_with fail
  go_ret
  exact ⟨g, rfl, HC.out, hg, HB.out⟩
theorem encode_nil (w : World) : Calls Try.prog 12 #[.pointer none] w fun e w' => e = .returned (.slice none 0 0) ∧ w = w' := by
  go_enter Try.func12, Try.ntmps12
  go_wp2_with fail
  go_ret
  exact ⟨rfl, rfl⟩
end Go.Proofs.Ytpakcmcoafbgkaa.Cx
