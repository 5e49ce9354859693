/- codec.Decode: just what 'dec' tells; its deferred closure turns what the reader gave up with into the error. -/
import Derived.Test.YtpakcmcoafbgkaaCh
import Derived.Test.YtpakcmcoafbgkaaCj
import Derived.Recover
namespace Go.Proofs.Ytpakcmcoafbgkaa.Cx
open Go.RowKit
/-- What the closure leaves where the reader has given up: no chunk, and the error. -/
structure Caught (c0 e0 : Nat) (c : Int) (w w' : World) : Prop where
  bc : w'.heap[c0]? = some (.cells #[.pointer none] 27 (0, 0))
  be : w'.heap[e0]? = some (.cells #[.int .i64 c] 33 (0, 0))
  size : w.heap.size ≤ w'.heap.size
  old : ∀ k, k < w.heap.size → k ≠ c0 → k ≠ e0 → w'.heap[k]? = w.heap[k]?
  os : w'.os = w.os
  tape : w'.tape = w.tape
  output : w'.output = w.output
def CaughtPost (c0 e0 : Nat) (c : Int) (w : World) (e : Ending) (u' : FrameMode) (w' : World) : Prop :=
  e = .returned (.tuple #[]) ∧ u' = .panicking [{ v := .iface 58 (.agg #[.int .i64 c]), recovered := true }] ∧ Caught c0 e0 c w w'
theorem assert58 (c : Int) (W : World) : (Instr.typeAssert (.iface 58 (.agg #[.int .i64 c])) 20 58 true).run Try.prog W = .ok (.tuple #[.agg #[.int .i64 c], .bool true]) W := by kernel_rfl
set_option maxHeartbeats 800000 in
theorem catch_broken (c0 e0 : Nat) (vc : Value) (xe c : Int) (w : World) (hc : w.heap[c0]? = some (.cells #[vc] 27 (0, 0))) (he : w.heap[e0]? = some (.cells #[.int .i64 xe] 33 (0, 0))) (hne : c0 ≠ e0) :
    CallsD Try.prog 30 #[.pointer (some ⟨c0, 0, none⟩), .pointer (some ⟨e0, 0, none⟩)] (.panicking (broke c)) w (CaughtPost c0 e0 c w) := by
  refine callsD_of_wpS Try.func30 rfl fun cf cs hu => ?_
  apply wpS_seq
  apply wpS_region
  simp [wpOpsS, go_sem, recoverD, hu, Try.ntmps30, Exit.thenS, broke]
  have k0 : w.cell? ⟨c0, 0, none⟩ = some vc := by rw [cell_of_row w c0 0 _ _ _ hc]; rfl
  have k1 : w.cell? ⟨e0, 0, none⟩ = some (.int .i64 xe) := by rw [cell_of_row w e0 0 _ _ _ he]; rfl
  have f0 : w.frozen? ⟨c0, 0, none⟩ = false := frozen_of_row w c0 0 _ _ hc
  have f1 : w.frozen? ⟨e0, 0, none⟩ = false := frozen_of_row w e0 0 _ _ he
  have HC := Lib.hid hc
  have HE := Lib.hid he
  have HU := Lib.hid hu
  clear hc he hu
  have hta := assert58 c
  refine wpS_of_wp ?_
  simp only [Array.replicate_succ, Array.replicate_zero, List.push_toArray, List.append_toArray, List.nil_append, List.cons_append, List.setIfInBounds_toArray, List.set_cons_zero, List.set_cons_succ]
  go_wp2
  have lc : c0 < w.heap.size := (Array.getElem?_eq_some_iff.1 HC.out).1
  have le : e0 < w.heap.size := (Array.getElem?_eq_some_iff.1 HE.out).1
  have hb := below_alloc w (.cells #[.int .i64 c] 58)
  have j0 := (hb.cell (p := ⟨c0, 0, none⟩) lc).trans k0
  have j1 := (hb.cell (p := ⟨e0, 0, none⟩) le).trans k1
  have i0 := (hb.frozen (p := ⟨c0, 0, none⟩) lc).trans f0
  have i1 := (hb.frozen (p := ⟨e0, 0, none⟩) le).trans f1
  have m0 : (w.alloc (.cells #[.int .i64 c] 58)).cell? ⟨w.heap.size, 0, none⟩ = some (.int .i64 c) := by rw [cell_of_row _ _ 0 _ _ _ (heap_alloc_new w _)]; rfl
  have HC2 : Hid ((w.alloc (.cells #[.int .i64 c] 58)).heap[c0]? = some (.cells #[vc] 27 (0, 0))) := (hb.block c0 lc).trans HC.out
  have HE2 : Hid ((w.alloc (.cells #[.int .i64 c] 58)).heap[e0]? = some (.cells #[.int .i64 xe] 33 (0, 0))) := (hb.block e0 le).trans HE.out
  have HB := Lib.hid hb
  clear hb k0 k1 f0 f1 HC HE
  generalize w.alloc (.cells #[.int .i64 c] 58) = w1 at *
  generalize hg : w.heap.size = g at *
  have HG := Lib.hid hg
  clear hg
  go_region
  refine ⟨rfl, _, rfl, _, results_none rfl _ _ _, rfl, rfl, ⟨?_, ?_, ?_, ?_, HB.out.os, HB.out.tape, HB.out.output⟩⟩
  · show ((w1.setCell ⟨c0, 0, none⟩ (.pointer none)).setCell ⟨e0, 0, none⟩ (.int .i64 c)).heap[c0]? = _
    rw [heap_setCell_other _ _ _ _ hne, heap_setCell_same w1 c0 0 _ _ _ HC2.out]; rfl
  · show ((w1.setCell ⟨c0, 0, none⟩ (.pointer none)).setCell ⟨e0, 0, none⟩ (.int .i64 c)).heap[e0]? = _
    rw [heap_setCell_same (w1.setCell ⟨c0, 0, none⟩ (.pointer none)) e0 0 #[.int .i64 xe] 33 _ (by rw [heap_setCell_other _ _ _ _ (Ne.symm hne)]; exact HE2.out)]; rfl
  · show w.heap.size ≤ ((w1.setCell ⟨c0, 0, none⟩ (.pointer none)).setCell ⟨e0, 0, none⟩ (.int .i64 c)).heap.size
    have := HB.out.size
    simp [World.setCell]; exact this
  · intro k hk h1 h2
    show ((w1.setCell ⟨c0, 0, none⟩ (.pointer none)).setCell ⟨e0, 0, none⟩ (.int .i64 c)).heap[k]? = _
    rw [heap_setCell_other _ _ _ _ h2, heap_setCell_other _ _ _ _ h1]
    exact HB.out.block k (by have := HG.out; omega)
set_option maxHeartbeats 800000 in
theorem catch_idle (c0 e0 : Nat) (w : World) :
    CallsD Try.prog 30 #[.pointer (some ⟨c0, 0, none⟩), .pointer (some ⟨e0, 0, none⟩)] .returning w fun e u' w' => e = .returned (.tuple #[]) ∧ u' = .returning ∧ w' = w := by
  refine callsD_of_wpS Try.func30 rfl fun cf cs hu => ?_
  apply wpS_seq
  apply wpS_region
  simp [wpOpsS, go_sem, recoverD, hu, Try.ntmps30, Exit.thenS]
  have HU := Lib.hid hu
  clear hu
  refine wpS_of_wp ?_
  simp only [Array.replicate_succ, Array.replicate_zero, List.push_toArray, List.append_toArray, List.nil_append, List.cons_append, List.setIfInBounds_toArray, List.set_cons_zero, List.set_cons_succ]
  go_wp2
  cases cf
  have hu := HU.out
  subst hu
  exact ⟨rfl, _, rfl, _, results_none rfl _ _ _, rfl, rfl, rfl⟩
/-- What becomes of a call of Decode. -/
def DecPost (r : Except Int (List Int)) (w : World) (e : Ending) (w' : World) : Prop :=
  match r with
  | .error c => e = .returned (.tuple #[.pointer none, .int .i64 c]) ∧ Below w.heap.size w w'
  | .ok out => Made w out e w'
theorem DecPost.error {c : Int} {w w' : World} {r : Except Int (List Int)} (hr : r = .error c) (hb : Below w.heap.size w w') : DecPost r w (.returned (.tuple #[.pointer none, .int .i64 c])) w' := by subst hr; exact ⟨rfl, hb⟩
theorem DecPost.ok {out : List Int} {w w' : World} {e : Ending} {r : Except Int (List Int)} (hr : r = .ok out) (h : Made w out e w') : DecPost r w e w' := by subst hr; exact h
theorem heap_at (w : World) (o : Obj) (k : Nat) : (w.alloc o).heap[k]? = if k = w.heap.size then some o else w.heap[k]? := by
  show (w.heap.push o)[k]? = _
  rw [Array.getElem?_push]
theorem size_alloc (w : World) (o : Obj) : (w.alloc o).heap.size = w.heap.size + 1 := by show (w.heap.push o).size = _; simp
/-- Four new blocks. -/
theorem alloc4 (w : World) (a b c d : Obj) : ((((w.alloc a).alloc b).alloc c).alloc d).heap[w.heap.size]? = some a ∧ ((((w.alloc a).alloc b).alloc c).alloc d).heap[w.heap.size + 1]? = some b ∧
    ((((w.alloc a).alloc b).alloc c).alloc d).heap[w.heap.size + 2]? = some c ∧ ((((w.alloc a).alloc b).alloc c).alloc d).heap[w.heap.size + 3]? = some d ∧ Below w.heap.size w ((((w.alloc a).alloc b).alloc c).alloc d) ∧ ((((w.alloc a).alloc b).alloc c).alloc d).heap.size = w.heap.size + 4 := by
  refine ⟨?_, ?_, ?_, ?_, ((((Below.refl _ _).alloc (Nat.le_refl _) a).alloc (by rw [size_alloc]; omega) b).alloc (by rw [size_alloc, size_alloc]; omega) c).alloc (by rw [size_alloc, size_alloc, size_alloc]; omega) d, by simp only [size_alloc]⟩
  · rw [heap_at, if_neg (by simp only [size_alloc]; omega), heap_at, if_neg (by simp only [size_alloc]; omega), heap_at, if_neg (by simp only [size_alloc]; omega), heap_at, if_pos rfl]
  · rw [heap_at, if_neg (by simp only [size_alloc]; omega), heap_at, if_neg (by simp only [size_alloc]; omega), heap_at, if_pos (by simp only [size_alloc])]
  · rw [heap_at, if_neg (by simp only [size_alloc]; omega), heap_at, if_pos (by simp only [size_alloc])]
  · rw [heap_at, if_pos (by simp only [size_alloc])]
set_option maxHeartbeats 1600000 in
theorem decode_any (v : Value) (b : List Int) (w : World) (h : RI .u8 w v b) (hb : Bytes b) (hl : Low w.heap.size v) : Calls Try.prog 15 #[v] w (DecPost (dec b) w) := by
  have hmf : ∀ (fn : Fn) (first cap : Array Value) (w : World), (Instr.makeFunc fn first cap).run Try.prog w = .ok (.func fn first cap) w := fun _ _ _ _ => rfl
  have hmk : ∀ W : World, (Instr.makeSlice 25 (.int .i64 0) (.int .i64 32768)).run Try.prog W = .ok (.slice (some ⟨W.heap.size, 0, none⟩) 0 32768) (W.alloc (.cells zr9.toArray 5)) := by
    intro W
    rw [zr9_nums]
    exact run_make_nums (P := Try.prog) 25 5 .u8 1 Try.underlying25 info5 0 32768 (by omega) (by omega) (by omega) W
  have H := Lib.hid h
  have HB := Lib.hid hb
  have HL := Lib.hid hl
  clear h hb hl
  obtain ⟨A, n, c, rfl⟩ : ∃ A n c, v = .slice A n c := by
    obtain ⟨A, c, e, _⟩ := H.out
    exact ⟨A, _, c, e⟩
  go_enter_defers Try.func15, Try.ntmps15
  go_wp2_with fail
  obtain ⟨g0, g1, g2, g3, gb, gs⟩ := alloc4 w (.cells #[.pointer none] 27) (.cells #[.int .i64 0] 33) (.cells zr9.toArray 5) (.cells #[.slice A n c, .slice none 0 0, .slice (some ⟨w.heap.size + 1 + 1, 0, none⟩) 0 32768] 62)
  generalize (((w.alloc (.cells #[.pointer none] 27)).alloc (.cells #[.int .i64 0] 33)).alloc (.cells zr9.toArray 5)).alloc (.cells #[.slice A n c, .slice none 0 0, .slice (some ⟨w.heap.size + 1 + 1, 0, none⟩) 0 32768] 62) = w1 at *
  have hown : Own .u8 5 w1 (w.heap.size + 2) (.slice (some ⟨w.heap.size + 2, 0, none⟩) 0 32768) [] := by
    refine ⟨rfl, .inr ⟨w.heap.size + 2, 32768, zr9.toArray, rfl, Nat.le_refl _, g2, Nat.zero_le _, by decide, ?_, rfl⟩⟩
    rw [Nat.mul_one, List.size_toArray, zr9_eq]; exact List.length_replicate
  have hRS := Lib.hid (show RS w1 (w.heap.size + 2) (w.heap.size + 3) (.slice A n c) (.slice none 0 0) (.slice (some ⟨w.heap.size + 2, 0, none⟩) 0 32768) b [] [] from
    ⟨⟨g3, hown, fun e => (by simp [Value.ownBlock] at e), by omega⟩, H.out.below gb, RI.nil _ _, fun g hg => by have := HL.out g hg; omega, fun g hg => by cases hg⟩)
  refine (read_any hRS.out HB.out).mono ?_
  intro e w2 hrd
  have hG0 : ∀ w', Below (w.heap.size + 2) w1 w' → w'.heap[w.heap.size]? = some (.cells #[.pointer none] 27) := fun w' h => (h.block _ (by omega)).trans g0
  have hG1 : ∀ w', Below (w.heap.size + 2) w1 w' → w'.heap[w.heap.size + 1]? = some (.cells #[.int .i64 0] 33) := fun w' h => (h.block _ (by omega)).trans g1
  have HG0 := Lib.hid hG0
  have HG1 := Lib.hid hG1
  have Hgb := Lib.hid gb
  clear hG0 hG1 g0 g1 g2 g3 gb hown
  rcases hr : dec b with ec | out
  · rw [hr] at hrd
    obtain ⟨rfl, hb2⟩ := hrd
    have hc0 := HG0.out w2 hb2
    have hc1 := HG1.out w2 hb2
    refine leaves_cons (f := 30) (args := #[.pointer (some ⟨w.heap.size, 0, none⟩), .pointer (some ⟨w.heap.size + 1, 0, none⟩)]) (by simp) (by simp [go_sem]) ?_
    refine (catch_broken _ _ _ _ ec w2 hc0 hc1 (by omega)).mono ?_
    rintro e u' w3 ⟨rfl, rfl, hC⟩
    have k0 : w3.cell? ⟨w.heap.size, 0, none⟩ = some (.pointer none) := by rw [cell_of_row w3 _ 0 _ _ _ hC.bc]; rfl
    have k1 : w3.cell? ⟨w.heap.size + 1, 0, none⟩ = some (.int .i64 ec) := by rw [cell_of_row w3 _ 0 _ _ _ hC.be]; rfl
    have hbw : Below w.heap.size w w3 := by
      have h2 := hb2.mono (show w.heap.size ≤ w.heap.size + 2 by omega)
      have h3 : Below w.heap.size w2 w3 := ⟨hC.os, hC.tape, hC.output, hC.size, fun k hk => hC.old k (by have := hb2.size; omega) (by omega) (by omega)⟩
      exact (Hgb.out.trans h2).trans h3
    have hfin := DecPost.error (w := w) (w' := w3) (r := .error ec) rfl hbw
    simp [Leaves, settle, results, Try.results15, go_sem, k0, k1]
    exact hfin
  · rw [hr] at hrd
    obtain ⟨rfl, ⟨vb', vp', vo', hR⟩, hb2⟩ := hrd
    have HR := Lib.hid hR
    clear hR
    have c2 := HR.out.c2
    obtain ⟨hol, hok⟩ := dec_ok HB.out hr
    have hol2 : Hid ((out.length : Int) = 32768) := by rw [hol]; exact rfl
    clear hol
    go_wp2_with fail
    refine (from_ok vo' out w2 HR.out.own.RI hok hol2.out).mono ?_
    rintro e w3 ⟨g, rfl, hC, hg, hb3⟩
    have hs2 := hb2.size
    have hc0 := (hb3.block w.heap.size (by omega)).trans (HG0.out w2 hb2)
    have hc1 := (hb3.block (w.heap.size + 1) (by omega)).trans (HG1.out w2 hb2)
    have k0 : w3.cell? ⟨w.heap.size, 0, none⟩ = some (.pointer none) := by rw [cell_of_row w3 _ 0 _ _ _ hc0]; rfl
    have k1 : w3.cell? ⟨w.heap.size + 1, 0, none⟩ = some (.int .i64 0) := by rw [cell_of_row w3 _ 0 _ _ _ hc1]; rfl
    have f0 : w3.frozen? ⟨w.heap.size, 0, none⟩ = false := frozen_of_row w3 _ 0 _ _ hc0
    have f1 : w3.frozen? ⟨w.heap.size + 1, 0, none⟩ = false := frozen_of_row w3 _ 0 _ _ hc1
    go_wp2_with fail
    have hbw3 : Below w.heap.size w w3 := (Hgb.out.trans (hb2.mono (by omega))).trans (hb3.mono (by omega))
    have e1 : ((w3.setCell ⟨w.heap.size, 0, none⟩ (.pointer (some ⟨g, 0, none⟩))).setCell ⟨w.heap.size + 1, 0, none⟩ (.int .i64 0)).heap[w.heap.size]? = some (.cells #[.pointer (some ⟨g, 0, none⟩)] 27 (0, 0)) := by
      rw [heap_setCell_other _ _ _ _ (by show w.heap.size ≠ w.heap.size + 1; omega), heap_setCell_same w3 _ 0 _ _ _ hc0]; rfl
    have e2 : ((w3.setCell ⟨w.heap.size, 0, none⟩ (.pointer (some ⟨g, 0, none⟩))).setCell ⟨w.heap.size + 1, 0, none⟩ (.int .i64 0)).heap[w.heap.size + 1]? = some (.cells #[.int .i64 0] 33 (0, 0)) := by
      rw [heap_setCell_same _ (w.heap.size + 1) 0 #[.int .i64 0] 33 _ (by rw [heap_setCell_other _ _ _ _ (by show w.heap.size + 1 ≠ w.heap.size; omega)]; exact hc1)]; rfl
    have e3 : Chk ((w3.setCell ⟨w.heap.size, 0, none⟩ (.pointer (some ⟨g, 0, none⟩))).setCell ⟨w.heap.size + 1, 0, none⟩ (.int .i64 0)) g out :=
      ⟨by rw [heap_setCell_other _ _ _ _ (by show g ≠ w.heap.size + 1; omega), heap_setCell_other _ _ _ _ (by show g ≠ w.heap.size; omega)]; exact hC.blk, hC.len⟩
    have e4 : Below w.heap.size w ((w3.setCell ⟨w.heap.size, 0, none⟩ (.pointer (some ⟨g, 0, none⟩))).setCell ⟨w.heap.size + 1, 0, none⟩ (.int .i64 0)) := (hbw3.setCell (Nat.le_refl _) _).setCell (by show w.heap.size ≤ w.heap.size + 1; omega) _
    have hgw : w.heap.size ≤ g := by omega
    clear k0 k1 f0 f1 hc0 hc1 hC hb3 hbw3
    generalize (w3.setCell ⟨w.heap.size, 0, none⟩ (.pointer (some ⟨g, 0, none⟩))).setCell ⟨w.heap.size + 1, 0, none⟩ (.int .i64 0) = w4 at *
    refine leaves_cons (f := 30) (args := #[.pointer (some ⟨w.heap.size, 0, none⟩), .pointer (some ⟨w.heap.size + 1, 0, none⟩)]) (by simp) (by simp [go_sem]) ?_
    refine (catch_idle _ _ w4).mono ?_
    rintro e u' w5 ⟨rfl, rfl, rfl⟩
    have k0 : w5.cell? ⟨w.heap.size, 0, none⟩ = some (.pointer (some ⟨g, 0, none⟩)) := by rw [cell_of_row w5 _ 0 _ _ _ e1]; rfl
    have k1 : w5.cell? ⟨w.heap.size + 1, 0, none⟩ = some (.int .i64 0) := by rw [cell_of_row w5 _ 0 _ _ _ e2]; rfl
    have hfin : DecPost (.ok out) w (.returned (.tuple #[.pointer (some ⟨g, 0, none⟩), .int .i64 0])) w5 := DecPost.ok rfl ⟨g, rfl, e3, hgw, e4⟩
    simp [Leaves, settle, results, Try.results15, go_sem, k0, k1]
    rw [hr]
    exact hfin
end Go.Proofs.Ytpakcmcoafbgkaa.Cx
