/- slices.Clone of bytes; a chunk's Bytes. -/
import Derived.Test.YtpakcmcoafbgkaaCj
namespace Go.Proofs.Ytpakcmcoafbgkaa.Cx
open Go.RowKit
/-- A new row of the call's own is handed back, that holds xs; all else is as it was. -/
def NewRow (k : IntKind) (t : TypeId) (xs : List Int) (w : World) (e : Ending) (w' : World) : Prop := ∃ v', e = .returned v' ∧ Own k t w' w.heap.size v' xs ∧ Below w.heap.size w w'
theorem clone_any (v : Value) (xs : List Int) (w : World) (h : RI .u8 w v xs) (hl : (xs.length : Int) ≤ 140737488355328) : Calls Try.prog 23 #[v] w (NewRow .u8 5 xs w) := by
  obtain ⟨A, n, c, rfl⟩ : ∃ A n c, v = .slice A n c := by
    obtain ⟨A, c, e, _⟩ := h
    exact ⟨A, _, c, e⟩
  have H := Lib.hid h
  clear h
  rcases A with _ | ad
  · have hx : xs = [] := by
      rcases xs with _ | ⟨x, xs⟩
      · rfl
      · obtain ⟨ad, e, _⟩ := H.out.at_ 0 (by rw [← H.out.len]; simp)
        cases e
    have HX := Lib.hid hx
    clear hx
    have he := fun W : World => Lib.run_eql_slice_nil (P := Try.prog) W 25 5 none n c 0 0 Try.underlying25
    go_enter Try.func23, Try.ntmps23
    go_wp2
    go_ret
    exact ⟨_, rfl, by rw [HX.out]; exact Own.nil _ _ _ _, Below.refl _ _⟩
  · have he := fun W : World => Lib.run_eql_slice_nil (P := Try.prog) W 25 5 (some ad) n c 0 0 Try.underlying25
    have hb := Lib.hid (below_alloc w (.cells #[] 5))
    have hO : Hid (Own .u8 5 (w.alloc (.cells #[] 5)) w.heap.size (.slice (some ⟨w.heap.size, 0, none⟩) 0 0) []) :=
      ⟨rfl, .inr ⟨w.heap.size, 0, #[], rfl, Nat.le_refl _, heap_alloc_new w _, Nat.le_refl _, Nat.zero_le _, rfl, rfl⟩⟩
    go_enter Try.func23, Try.ntmps23
    go_wp2_with (at_builtin; refine appR (w0 := w) w.heap.size rfl (.tmp 5) (.tmp 6) 25 5 .u8 1 rfl Try.underlying25 info5 (by omega) _ [] xs (.slice (some ad) n c) rfl rfl hO.out (H.out.below hb.out) hb.out (by simp) (by simp; omega) ?_; intro v1 w1 h1 hb1 _ _)
    go_ret
    exact ⟨_, rfl, h1, hb1⟩
end Go.Proofs.Ytpakcmcoafbgkaa.Cx
