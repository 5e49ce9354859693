/- chunk.From of the right number of cells, each of a kind that is; slices.Max. -/
import Derived.Test.YtpakcmcoafbgkaaCi
namespace Go.Proofs.Ytpakcmcoafbgkaa.Cx
open Go.RowKit
/-- Cells of kinds that are. -/
def Kinds (cs : List Int) : Prop := ∀ x ∈ cs, 0 ≤ x ∧ x ≤ 16
theorem Kinds.at_ {b : List Int} (h : Kinds b) (i : Nat) : 0 ≤ b.getD i 0 ∧ b.getD i 0 ≤ 16 := by
  by_cases hi : i < b.length
  · rw [List.getD_eq_getElem?_getD, List.getElem?_eq_getElem hi]; exact h _ (List.getElem_mem hi)
  · rw [List.getD_eq_getElem?_getD, List.getElem?_eq_none (by omega)]; simp
set_option maxHeartbeats 800000 in
theorem max_any (v : Value) (b : List Int) (w : World) (h : RI .u8 w v b) (hk : Kinds b) (h0 : 0 < b.length) :
    Calls Try.prog 34 #[v] w fun e w' => (∃ m : Int, Hid (0 ≤ m ∧ m ≤ 16) ∧ e = .returned (.int .u8 m)) ∧ w = w' := by
  obtain ⟨A, c, rfl, hc1, hc2, hcell⟩ := h
  obtain ⟨ad, ea, hx0⟩ := hcell 0 h0
  subst ea
  have hk0 := Lib.hid (hk.at_ 0)
  rw [show ad.add 0 = ad from rfl] at hx0
  have HC := Lib.hid hcell
  have HK := Lib.hid hk
  clear hcell hk
  go_enter Try.func34, Try.ntmps34
  go_wp2_with fail
  go_loop [3, 4] (fun m i => ∃ (k : Nat) (x : Int), k ≤ b.length ∧ i = .int .i64 k ∧ m = .int .u8 x ∧ 0 ≤ x ∧ x ≤ 16) (fun _ i => b.length - (intOf i).toNat)
  case atStart => exact ⟨1, b.getD 0 0, by omega, rfl, by simp [List.getElem?_eq_getElem h0], hk0.out.1, hk0.out.2⟩
  case round =>
    obtain ⟨k, x, hk, rfl, rfl, x0, x1⟩ := hrel
    by_cases hkn : k < b.length
    · obtain ⟨ad', ea, hx⟩ := HC.out k hkn
      cases ea
      obtain ⟨y0, y1⟩ := HK.out.at_ k
      generalize b.getD k 0 = y at *
      go_wp2_with fail
      all_goals
        go_round
        case measure => simp [intOf]; omega
        case rel => exact ⟨k + 1, _, by omega, by go_num, rfl, by omega, by omega⟩
    · go_wp2_with fail
      go_ret
      exact ⟨⟨x, ⟨x0, x1⟩, rfl⟩, rfl⟩
theorem splice_all {α : Type} (cur cs : List α) (h : cs.length = cur.length) : splice cur 0 cs = cs := by
  unfold splice
  rw [List.drop_eq_nil_of_le (by omega)]; simp
theorem size5 : (Try.prog.info? 5).map (·.size) = some 1 := by kernel_rfl
/-- A chunk made of cells. -/
def Made (w : World) (cs : List Int) (e : Ending) (w' : World) : Prop := ∃ g, e = .returned (.tuple #[.pointer (some ⟨g, 0, none⟩), .int .i64 0]) ∧ Chk w' g cs ∧ w.heap.size ≤ g ∧ Below w.heap.size w w'
set_option maxHeartbeats 800000 in
theorem from_ok (v : Value) (b : List Int) (w : World) (h : RI .u8 w v b) (hk : Kinds b) (hl : (b.length : Int) = 32768) :
    Calls Try.prog 21 #[v] w (Made w b) := by
  obtain ⟨A, c, e, hj⟩ := id h
  clear hj
  obtain ⟨n, hn⟩ : ∃ n, n = b.length := ⟨_, rfl⟩
  rw [← hn] at e
  subst e
  have HR := Lib.hid h
  have HK := Lib.hid hk
  have HN := Lib.hid hn
  clear h hk
  have n1 : ¬ ((n : Int) < 32768) := by omega
  have n2 : ¬ ((32768 : Int) < n) := by omega
  clear hn hl
  go_enter Try.func21, Try.ntmps21
  go_wp2_with fail
  refine (max_any _ b w HR.out HK.out (by have := HN.out; omega)).mono ?_
  rintro e w1 ⟨⟨m, hm, rfl⟩, rfl⟩
  have m1 : ¬ (16 < m) := by have := hm.out.2; omega
  go_wp2_with fail
  refine (new_any w).mono ?_
  rintro e w1 ⟨rfl, rfl⟩
  have hb1 : Below w.heap.size w (w.alloc (.cells zr9.toArray 56)) := below_alloc w _
  have hri := HR.out.below hb1
  have hlen : (nums .u8 b).length = 32768 := by rw [nums_length]; have := HN.out; omega
  have hz : zr9.length = 32768 := by rw [zr9_eq]; exact List.length_replicate
  have e1 := Lib.hid (show (nums .u8 b).length = Nat.min n 32768 by rw [hlen]; exact (Nat.min_eq_right (by omega)).symm)
  obtain ⟨ad, ea, hx⟩ := hri.at_ 0 (by have := HN.out; omega)
  subst ea
  clear hx
  have e2 := Lib.hid hri.cells
  have e3 := Lib.hid (show 0 + (nums .u8 b).length ≤ zr9.length by omega)
  have e4 := Lib.hid (show splice zr9 0 (nums .u8 b) = nums .u8 b from splice_all _ _ (by omega))
  have e5 := Lib.hid hb1
  have e6 := Lib.hid (show b.length = 32768 by rw [nums_length] at hlen; exact hlen)
  clear hb1 hri hlen hz
  go_wp2_with (with_reducible refine wpList_copy_splice rfl (.tmp 21) (.tmp 22) 25 25 rfl 5 Try.underlying25 size5 (some ⟨w.heap.size, 0, none⟩) (some ad) 32768 32768 n c rfl rfl w.heap.size 0 zr9 56 (heap_alloc_new w _) (nums .u8 b) e1.out (fun _ => ⟨rfl, ad, rfl, e2.out⟩) e3.out (nums_one _ _) w.heap.size w e5.out (Nat.le_refl _) ?_; intro w4 hg4 hb4)
  go_ret2
  rw [e4.out] at hg4
  exact ⟨_, rfl, ⟨hg4.out, e6.out⟩, Nat.le_refl _, hb4⟩
end Go.Proofs.Ytpakcmcoafbgkaa.Cx
