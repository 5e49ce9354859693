/- The laws' cells: some kinds, 32768 of them. -/
import Derived.Test.YtpakcmcoafbgkaaCv
namespace Go.Proofs.Ytpakcmcoafbgkaa.Cx
open Go.RowKit
def z32 : List Int := List.replicate 32768 0
theorem make32 (W : World) : (Instr.makeSlice 25 (.int .i64 32768) (.int .i64 32768)).run Try.prog W = .ok (.slice (some ⟨W.heap.size, 0, none⟩) 32768 32768) (W.alloc (.cells (nums .u8 z32).toArray 5)) :=
  run_make_nums (P := Try.prog) 25 5 .u8 1 Try.underlying25 info5 32768 32768 (by omega) (by omega) (by omega) W
theorem z32_len : z32.length = 32768 := List.length_replicate
theorem z32_kinds : Kinds z32 := fun x hx => by
  obtain rfl : x = 0 := List.eq_of_mem_replicate hx
  omega
theorem Kinds.set {cs : List Int} (h : Kinds cs) (k : Nat) {x : Int} (h0 : 0 ≤ x) (h1 : x ≤ 16) : Kinds (cs.set k x) := fun y hy => by
  rcases List.mem_or_eq_of_mem_set hy with hy | rfl
  · exact h y hy
  · exact ⟨h0, h1⟩
/-- Some cells in a row of one's own. -/
structure Row32 (w : World) (base g : Nat) : Prop where
  ex : ∃ cs, Kinds cs ∧ cs.length = 32768 ∧ Own .u8 5 w base (.slice (some ⟨g, 0, none⟩) 32768 32768) cs
theorem Row32.frozen {w : World} {base g : Nat} (h : Row32 w base g) (i : Nat) : w.frozen? ⟨g, i, none⟩ = false := by
  obtain ⟨cs, _, _, hO⟩ := h.ex
  exact Own.frozen hO i
theorem Row32.cell {w : World} {base g : Nat} (h : Row32 w base g) (i : Nat) (hi : (i : Int) < 32768) : ∃ x, w.cell? ⟨g, i, none⟩ = some (.int .u8 x) := by
  obtain ⟨cs, _, hl, hO⟩ := h.ex
  obtain ⟨ad, ea, hx⟩ := hO.RI.at_ i (by omega)
  cases ea
  rw [adp, Nat.zero_add] at hx
  exact ⟨_, hx⟩
theorem Row32.set {w : World} {base g : Nat} (h : Row32 w base g) (i : Nat) {x : Int} (h0 : 0 ≤ x) (h1 : x ≤ 16) : Row32 (w.setCell ⟨g, i, none⟩ (.int .u8 x)) base g := by
  obtain ⟨cs, hk, hl, hO⟩ := h.ex
  exact ⟨cs.set i x, hk.set i h0 h1, by rw [List.length_set]; exact hl, (hO.store i x).1⟩
theorem Row32.below {w w' : World} {base g : Nat} (h : Row32 w base g) (hb : Below w.heap.size w w') : Row32 w' base g := by
  obtain ⟨cs, hk, hl, hO⟩ := h.ex
  exact ⟨cs, hk, hl, hO.below hb⟩
def Row32Post (w : World) (e : Ending) (w' : World) : Prop := ∃ g, w.heap.size ≤ g ∧ e = .returned (.slice (some ⟨g, 0, none⟩) 32768 32768) ∧ Row32 w' w.heap.size g ∧ Below w.heap.size w w'
set_option maxHeartbeats 800000 in
theorem rnew_any (w : World) : Calls Try.prog 20 #[.int .i64 0] w (Row32Post w) := by
  have hmk := make32
  go_enter Try.func20, Try.ntmps20
  go_wp2_with fail
  have h0 : Hid (Row32 (w.alloc (.cells (nums .u8 z32).toArray 5)) w.heap.size w.heap.size) := ⟨z32, z32_kinds, z32_len, by
    have h := Own.of_block (k := .u8) (e := 5) (xs := z32) (base := w.heap.size) (heap_alloc_new w _) (Nat.le_refl _) (by rw [z32_len]; omega)
    rw [z32_len] at h; exact h⟩
  have hb0 := Lib.hid (below_alloc w (.cells (nums .u8 z32).toArray 5))
  generalize w.alloc (.cells (nums .u8 z32).toArray 5) = w1 at *
  clear hmk
  go_loopw [4] (fun i wr => ∃ k : Nat, (k : Int) ≤ 32768 ∧ i = .int .i64 k ∧ Hid (Row32 wr w.heap.size w.heap.size) ∧ Hid (Below w.heap.size w wr)) (fun i _ => 32768 - (intOf i).toNat)
  case atStart => exact ⟨0, by omega, rfl, h0, hb0⟩
  case round =>
    obtain ⟨k, hk, rfl, hR, hB⟩ := hrel
    by_cases hkn : (k : Int) < 32768
    · obtain ⟨x, hx⟩ := hR.out.cell k hkn
      have hfz := hR.out.frozen k
      have hst := Lib.hid (hR.out.set k (x := 0) (by omega) (by omega))
      have hbs := Lib.hid (hB.out.setCell (p := ⟨w.heap.size, k, none⟩) (Nat.le_refl _) (.int .u8 0))
      go_wp2_with fail
      exact ⟨⟨k + 1, by omega, by go_num, hst, hbs⟩, by simp [intOf]; omega⟩
    · go_wp2_with fail
      go_ret
      exact ⟨_, Nat.le_refl _, rfl, hR.out, hB.out⟩
end Go.Proofs.Ytpakcmcoafbgkaa.Cx
