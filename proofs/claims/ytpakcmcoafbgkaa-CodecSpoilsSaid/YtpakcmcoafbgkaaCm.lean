/- How many cells each kind has: a chunk's Counts and the reference's. -/
import Derived.Test.YtpakcmcoafbgkaaCl
import Derived.Test.YtpakcmcoafbgkaaCr
namespace Go.Proofs.Ytpakcmcoafbgkaa.Cx
open Go.RowKit
def z17 : List Int := List.replicate 17 0
theorem z17_cnt : z17 = cnt [] := cnt_nil.symm
theorem make17 (W : World) : (Instr.makeSlice 23 (.int .i64 17) (.int .i64 17)).run Try.prog W = .ok (.slice (some ⟨W.heap.size, 0, none⟩) 17 17) (W.alloc (.cells (nums .i64 z17).toArray 3)) :=
  run_make_nums (P := Try.prog) 23 3 .i64 8 Try.underlying23 info3 17 17 (by omega) (by omega) (by omega) W
theorem cnt_cell {w : World} {g : Nat} {l : List Int} (h : w.heap[g]? = some (.cells (nums .i64 l).toArray 3 (0, 0))) (k : Nat) (hk : k < l.length) : w.cell? ⟨g, k, none⟩ = some (.int .i64 (l.getD k 0)) := by
  rw [cell_of_row w g k _ _ _ h]
  have := nums_at (k := .i64) hk
  simpa using this
theorem cnt_store {w : World} {g : Nat} {l : List Int} (h : w.heap[g]? = some (.cells (nums .i64 l).toArray 3 (0, 0))) (k : Nat) (x : Int) : (w.setCell ⟨g, k, none⟩ (.int .i64 x)).heap[g]? = some (.cells (nums .i64 (l.set k x)).toArray 3 (0, 0)) := by
  rw [heap_setCell_same w g k _ _ _ h]
  simp [nums, List.map_set]
theorem take_snoc (cs : List Int) (k : Nat) (hk : k < cs.length) : cs.take (k + 1) = cs.take k ++ [cs.getD k 0] := by
  rw [List.take_succ_eq_append_getElem hk, List.getD_eq_getElem?_getD, List.getElem?_eq_getElem hk]; rfl
theorem run_index_array {P : Program} (t e : TypeId) (len : Nat) (ik : IntKind) (ht : P.underlying t = some (.array len e)) (he : P.underlying e = some (.int ik)) (hs : (P.info? e).map (·.size) = some 1) (l : List Value) (j : Nat) (hj : j < len) (v : Value) (hv : l[j]? = some v) (W : World) :
    (Instr.index t (.agg l.toArray) (.int .i64 (j : Int))).run P W = .ok v W := by
  obtain ⟨i, hi, hi1⟩ := Option.map_eq_some_iff.1 hs
  simp [Instr.index, asIntOf, run_underlying ht, part, isAgg, run_underlying he, sizeOf, typeInfo, hi, hi1, hj, hv]
theorem index54 {cs : List Int} (hl : cs.length = 32768) (k : Nat) (hk : (k : Int) < 32768) (W : World) : (Instr.index 54 (.agg (nums .u8 cs).toArray) (.int .i64 (k : Int))).run Try.prog W = .ok (.int .u8 (cs.getD k 0)) W :=
  run_index_array (P := Try.prog) 54 5 32768 .u8 Try.underlying54 Try.underlying5 size5 _ k (by omega) _ (nums_at (by omega)) W
theorem size54' : (Try.prog.info? 54).map (·.size) = some 32768 := by kernel_rfl
set_option maxHeartbeats 800000 in
theorem counts_any (g : Nat) (cs : List Int) (w : World) (h : Chk w g cs) (hk : Kinds cs) : Calls Try.prog 17 #[.pointer (some ⟨g, 0, none⟩)] w (NewRow .i64 3 (cnt cs) w) := by
  have hmk := make17
  have hblk := Lib.hid h.blk
  have HL := h.len
  have HK := Lib.hid hk
  have hlt := h.lt
  have hsz : Hid ((Try.prog.info? 54).map (·.size) = some (nums .u8 cs).toArray.size) := by rw [List.size_toArray, nums_length, HL.out]; exact size54'
  have hb := Lib.hid (below_alloc w (.cells (nums .i64 z17).toArray 3))
  have hb1 : Hid ((w.alloc (.cells (nums .i64 z17).toArray 3)).heap[g]? = some (.cells (nums .u8 cs).toArray 56 (0, 0))) := (hb.out.block g hlt).trans hblk.out
  have hn : Hid ((w.alloc (.cells (nums .i64 z17).toArray 3)).heap[w.heap.size]? = some (.cells (nums .i64 (cnt (cs.take 0))).toArray 3 (0, 0))) := heap_alloc_new w _
  clear h hk
  go_enter Try.func17, Try.ntmps17
  go_wp2_with (with_reducible refine wpList_load_row rfl 54 _ rfl g rfl 56 (nums .u8 cs).toArray (0, 0) _ hb1.out Try.underlying54 rfl hsz.out ?_)
  generalize w.alloc (.cells (nums .i64 z17).toArray 3) = w1 at *
  have HN := hn
  generalize hgb : w.heap.size = gb at *
  have HG := Lib.hid hgb
  clear hgb hmk
  go_loopw [11] (fun i wr => ∃ k : Nat, (k : Int) ≤ 32768 ∧ i = .int .i64 k ∧ Hid (wr.heap[gb]? = some (.cells (nums .i64 (cnt (cs.take k))).toArray 3 (0, 0))) ∧ Hid (Below gb w wr)) (fun i _ => (32768 - intOf i).toNat)
  case atStart => exact ⟨0, by omega, rfl, HN, hb⟩
  case round =>
    obtain ⟨k, hk, rfl, hr, hbel⟩ := hrel
    by_cases hkn : (k : Int) < 32768
    · have hix := index54 HL.out k hkn wr
      obtain ⟨x0, x1⟩ := HK.out.at_ k
      have HT : Hid (cnt (cs.take (k + 1)) = (cnt (cs.take k)).set (cs.getD k 0).toNat ((cnt (cs.take k)).getD (cs.getD k 0).toNat 0 + 1)) := by
        rw [take_snoc cs k (by have := HL.out; omega), cnt_snoc _ _ x0 x1]; exact rfl
      obtain ⟨y1, y0⟩ := cnt_bound (cs.take k) (cs.getD k 0).toNat
      have hy1 : (cnt (cs.take k)).getD (cs.getD k 0).toNat 0 ≤ 32768 := by rw [List.length_take] at y1; omega
      have hcell := cnt_cell hr.out (cs.getD k 0).toNat (by rw [cnt_len]; omega)
      have hfz : wr.frozen? ⟨gb, (cs.getD k 0).toNat, none⟩ = false := frozen_of_row wr gb _ _ _ hr.out
      have hst := Lib.hid (cnt_store hr.out (cs.getD k 0).toNat ((cnt (cs.take k)).getD (cs.getD k 0).toNat 0 + 1))
      rw [← HT.out] at hst
      clear y1 HT
      generalize (cnt (cs.take k)).getD (cs.getD k 0).toNat 0 = y at *
      generalize cs.getD k 0 = x at *
      go_wp2_with fail
      exact ⟨⟨k + 1, by omega, by go_num, hst, hbel.out.setCell (Nat.le_refl _) _⟩, by simp [intOf]; omega⟩
    · have e : k = 32768 := by omega
      have hown : Hid (Own .i64 3 wr gb (.slice (some ⟨gb, 0, none⟩) 17 17) (cnt cs)) := by
        have h1 := hr.out
        rw [e, List.take_of_length_le (by rw [HL.out]; exact Nat.le_refl _)] at h1
        have h2 := Own.of_block (k := .i64) (base := gb) h1 (Nat.le_refl _) (by rw [cnt_len]; omega)
        rw [cnt_len] at h2
        exact h2
      clear e
      go_wp2_with fail
      go_ret
      exact ⟨_, rfl, by rw [HG.out]; exact hown.out, by rw [HG.out]; exact hbel.out⟩
set_option maxHeartbeats 800000 in
theorem rcounts_any (v : Value) (cs : List Int) (w : World) (h : RI .u8 w v cs) (hk : Kinds cs) (hl : (cs.length : Int) ≤ 32768) : Calls Try.prog 37 #[v] w (NewRow .i64 3 (cnt cs) w) := by
  have hmk := make17
  obtain ⟨A, n, c, rfl⟩ : ∃ A n c, v = .slice A n c := by
    obtain ⟨A, c, e, _⟩ := h
    exact ⟨A, _, c, e⟩
  have HN' := Lib.hid h.len
  have hnl : (n : Int) ≤ 32768 := by rw [← h.len]; exact hl
  have HK := Lib.hid hk
  have hb := Lib.hid (below_alloc w (.cells (nums .i64 z17).toArray 3))
  have hn : Hid ((w.alloc (.cells (nums .i64 z17).toArray 3)).heap[w.heap.size]? = some (.cells (nums .i64 (cnt (cs.take 0))).toArray 3 (0, 0))) := heap_alloc_new w _
  have H := Lib.hid h
  clear h hk hl
  go_enter Try.func37, Try.ntmps37
  go_wp2_with fail
  generalize w.alloc (.cells (nums .i64 z17).toArray 3) = w1 at *
  generalize hgb : w.heap.size = gb at *
  have HG := Lib.hid hgb
  clear hgb hmk
  go_loopw [4] (fun i wr => ∃ k : Nat, k ≤ n ∧ i = .int .i64 k ∧ Hid (wr.heap[gb]? = some (.cells (nums .i64 (cnt (cs.take k))).toArray 3 (0, 0))) ∧ Hid (Below gb w wr)) (fun i _ => n - (intOf i).toNat)
  case atStart => exact ⟨0, by omega, rfl, hn, hb⟩
  case round =>
    obtain ⟨k, hk, rfl, hr, hbel⟩ := hrel
    by_cases hkn : k < n
    · obtain ⟨ad, ea, hx⟩ := (H.out.below (by rw [HG.out]; exact hbel.out)).at_ k hkn
      cases ea
      obtain ⟨x0, x1⟩ := HK.out.at_ k
      have HT : Hid (cnt (cs.take (k + 1)) = (cnt (cs.take k)).set (cs.getD k 0).toNat ((cnt (cs.take k)).getD (cs.getD k 0).toNat 0 + 1)) := by
        rw [take_snoc cs k (by have := HN'.out; omega), cnt_snoc _ _ x0 x1]; exact rfl
      obtain ⟨y1, y0⟩ := cnt_bound (cs.take k) (cs.getD k 0).toNat
      have hy1 : (cnt (cs.take k)).getD (cs.getD k 0).toNat 0 ≤ 32768 := by rw [List.length_take] at y1; omega
      have hcell := cnt_cell hr.out (cs.getD k 0).toNat (by rw [cnt_len]; omega)
      have hfz : wr.frozen? ⟨gb, (cs.getD k 0).toNat, none⟩ = false := frozen_of_row wr gb _ _ _ hr.out
      have hst := Lib.hid (cnt_store hr.out (cs.getD k 0).toNat ((cnt (cs.take k)).getD (cs.getD k 0).toNat 0 + 1))
      rw [← HT.out] at hst
      clear y1 HT
      generalize (cnt (cs.take k)).getD (cs.getD k 0).toNat 0 = y at *
      generalize cs.getD k 0 = x at *
      go_wp2_with fail
      exact ⟨⟨k + 1, by omega, by go_num, hst, hbel.out.setCell (Nat.le_refl _) _⟩, by simp [intOf]; omega⟩
    · have e : k = n := by omega
      have hown : Hid (Own .i64 3 wr gb (.slice (some ⟨gb, 0, none⟩) 17 17) (cnt cs)) := by
        have h1 := hr.out
        rw [e, List.take_of_length_le (by rw [HN'.out]; exact Nat.le_refl _)] at h1
        have h2 := Own.of_block (k := .i64) (base := gb) h1 (Nat.le_refl _) (by rw [cnt_len]; omega)
        rw [cnt_len] at h2
        exact h2
      clear e
      go_wp2_with fail
      go_ret
      exact ⟨_, rfl, by rw [HG.out]; exact hown.out, by rw [HG.out]; exact hbel.out⟩
end Go.Proofs.Ytpakcmcoafbgkaa.Cx
