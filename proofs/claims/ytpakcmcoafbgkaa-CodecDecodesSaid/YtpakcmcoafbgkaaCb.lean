/- The reader's small functions: must, take, puts. -/
import Derived.Test.YtpakcmcoafbgkaaProg
import Derived.Test.YtpakcmcoafbgkaaCa
import Derived.KernelRfl
import Derived.Deep.RegionLaw
import Derived.Outline
namespace Go.Proofs.Ytpakcmcoafbgkaa.Cx
open Go.RowKit
theorem info5 : (Try.prog.info? 5).map (fun i => (i.zero, i.size, i.bytes)) = some (some (.int .u8 0), 1, 1) := by kernel_rfl
theorem info3 : (Try.prog.info? 3).map (fun i => (i.zero, i.size, i.bytes)) = some (some (.int .i64 0), 1, 8) := by kernel_rfl
/-- What a reader gives up with. -/
def broke (e : Int) : List PanicEntry := [{ v := .iface 58 (.agg #[.int .i64 e]), recovered := false }]
theorem must_ok (e : Int) (w : World) :
    Calls Try.prog 39 #[.bool true, .int .i64 e] w fun x w' => x = .returned (.tuple #[]) ∧ w = w' := by
  go_enter Try.func39, Try.ntmps39
  go_wp2
  go_end0
  exact ⟨rfl, rfl⟩
theorem must_no (e : Int) (w : World) :
    Calls Try.prog 39 #[.bool false, .int .i64 e] w fun x w' => x = .panicked (broke e) ∧ w = w' := by
  go_enter Try.func39, Try.ntmps39
  go_wp2
  exact ⟨rfl, rfl, rfl⟩
theorem take_ok (br : Nat) (A : Option Addr) (n c m : Nat) (w : World) (hc : w.cell? ⟨br,0,none⟩ = some (.slice A n c)) (hf : w.frozen? ⟨br,0,none⟩ = false) (hm : m ≤ n) (hn : n ≤ c) :
  Calls Try.prog 38 #[.pointer (some ⟨br,0,none⟩), .int .i64 m] w fun e w' => e = .returned (.slice A m c) ∧ w' = w.setCell ⟨br,0,none⟩ (.slice (cutA A c m) (n-m) (c-m)) := by
  go_enter Try.func38, Try.ntmps38
  go_wp2_with (go_at_call 39; refine (must_ok _ _).mono ?_; rintro e w' ⟨rfl, rfl⟩)
  all_goals go_ret
  · subst h; exact ⟨rfl, by simp [cutA]⟩
  · exact ⟨rfl, by simp [cutA, h]⟩
theorem take_no (br : Nat) (A : Option Addr) (n c m : Nat) (w : World) (hc : w.cell? ⟨br,0,none⟩ = some (.slice A n c)) (hm : n < m)  :
  Calls Try.prog 38 #[.pointer (some ⟨br,0,none⟩), .int .i64 m] w fun e w' => e = .panicked (broke 3) ∧ w = w' := by
  have hd : ¬ (m ≤ n) := by omega
  go_enter Try.func38, Try.ntmps38
  go_wp2_with (go_at_call 39; refine (must_no _ _).mono ?_; rintro e w' ⟨rfl, rfl⟩)
  exact ⟨rfl, rfl, rfl⟩
theorem puts_no (br : Nat) (vb vo : Value) (ap : Option Addr) (np cp : Nat) (p n : Int) (w : World)
    (hb : w.heap[br]? = some (.cells #[vb, .slice ap np cp, vo] 62 (0,0))) (h0 : 0 ≤ p) (h1 : p < 256) (hp : (np : Int) ≤ p) :
  Calls Try.prog 44 #[.pointer (some ⟨br,0,none⟩), .int .u8 p, .int .i64 n] w fun e w' => e = .panicked (broke 4) ∧ w = w' := by
  have c1 : w.cell? ⟨br,1,none⟩ = some (.slice ap np cp) := by rw [cell_of_row w br 1 _ _ _ hb]; rfl
  have hd : ¬ (p < np) := by omega
  go_enter Try.func44, Try.ntmps44
  go_wp2_with (go_at_call 39; refine (must_no _ _).mono ?_; rintro e w' ⟨rfl, rfl⟩)
  exact ⟨rfl, rfl, rfl⟩
/-- The reader's block, with the row that it puts to. -/
structure Rdr (w : World) (B br : Nat) (vb vp vo : Value) (out : List Int) : Prop where
  blk : w.heap[br]? = some (.cells #[vb, vp, vo] 62 (0,0))
  own : Own .u8 5 w B vo out
  ne : vo.ownBlock ≠ some br
  le : B ≤ br
set_option maxHeartbeats 1600000 in
set_option maxRecDepth 100000 in
theorem puts_ok (B br : Nat) (vb vo : Value) (ap : Addr) (np cp : Nat) (out : List Int) (p x n : Int) (w : World)
    (hR : Rdr w B br vb (.slice (some ap) np cp) vo out) (hap : ap.block < B) (h0 : 0 ≤ p) (h256 : p < 256) (h1 : p < np) (hx : w.cell? (ap.add p.toNat) = some (.int .u8 x)) (hn0 : 0 ≤ n) (hn : out.length + n ≤ 40000) :
  Calls Try.prog 44 #[.pointer (some ⟨br,0,none⟩), .int .u8 p, .int .i64 n] w fun e w' => e = .returned (.tuple #[]) ∧ (∃ vo', Rdr w' B br vb (.slice (some ap) np cp) vo' (out ++ List.replicate n.toNat x)) ∧ Below B w w' := by
  obtain ⟨hb, hown, hne, hB⟩ := hR
  have c1 : w.cell? ⟨br,1,none⟩ = some (.slice (some ap) np cp) := by rw [cell_of_row w br 1 _ _ _ hb]; rfl
  have hlt : br < w.heap.size := (Array.getElem?_eq_some_iff.1 hb).1
  have HB := Lib.hid hb; have HO := Lib.hid hown; clear hb hown
  go_enter Try.func44, Try.ntmps44
  go_wp2_with (go_at_call 39; refine (must_ok _ _).mono ?_; rintro e w' ⟨rfl, rfl⟩)
  go_loopw [16] (fun i wr => ∃ k : Nat, (k : Int) ≤ n ∧ i = .int .i64 k ∧ (∃ vo', Hid (Rdr wr B br vb (.slice (some ap) np cp) vo' (out ++ List.replicate k x))) ∧ Below B w wr)
      (fun i _ => (n - intOf i).toNat)
  case atStart => exact ⟨0, by omega, rfl, ⟨vo, ⟨HB.out, by simpa using HO.out, hne, hB⟩⟩, Below.refl _ _⟩
  case round =>
    obtain ⟨k, hk, rfl, ⟨vo', HR⟩, hbel⟩ := hrel
    have d0 : wr.cell? ⟨br,2,none⟩ = some vo' := by rw [cell_of_row wr br 2 _ _ _ HR.out.blk]; rfl
    have d1 : wr.cell? ⟨br,1,none⟩ = some (.slice (some ap) np cp) := by rw [cell_of_row wr br 1 _ _ _ HR.out.blk]; rfl
    have dx : wr.cell? (ap.add p.toNat) = some (.int .u8 x) := by rw [hbel.cell (by rw [add_block]; exact hap)]; exact hx
    have df : wr.frozen? ⟨br,2,none⟩ = false := frozen_of_row wr br 2 _ _ HR.out.blk
    have hltr : br < wr.heap.size := (Array.getElem?_eq_some_iff.1 HR.out.blk).1
    by_cases hkn : (k : Int) < n
    · go_wp2_with fail
      go_region_law (refine appR_step (w0 := w) B rfl (.tmp 22) (.tmp 30) 25 5 .u8 1 rfl Try.underlying25 info5 (by omega) vo' (out ++ List.replicate k x) [x] (.slice (some ⟨wr.heap.size, 0, none⟩) 1 1) rfl rfl (Own.alloc (Own.drew HR.out.own) _) (RI.box .u8 5 wr.drew [x] (by simp) (0,0)) ((hbel.drew).alloc (by simp; omega) _) (by simp; omega) (by simp; omega) ?_; intro v1 w1 hown1 hbel1 hg1 hat1; have hblk1 := Lib.hid (blk_grown HR.out.blk (below_drew_alloc wr _) hg1 HR.out.ne); have hne1 := Lib.hid (hat1.ne HR.out.ne (by simp; omega)); obtain ⟨A1, n1, cc1, rfl⟩ := hown1.val; have e2 : w1.cell? ⟨br,2,none⟩ = some vo' := (by rw [cell_of_row w1 br 2 _ _ _ hblk1.out]; rfl); have e3 : w1.frozen? ⟨br,2,none⟩ = false := frozen_of_row w1 br 2 _ _ hblk1.out; clear hg1 hat1; have hown1 := Lib.hid hown1)
      all_goals
        go_wp2
        go_roundw
        case measure => simp [intOf]; omega
        case rel =>
          refine ⟨k + 1, by omega, by go_num, ⟨_, ⟨?_, ?_, hne1.out, hB⟩⟩, hbel1.setCell (by exact hB) _⟩
          · rw [heap_setCell_same w1 br 2 _ _ _ hblk1.out]; rfl
          · rw [List.replicate_succ', ← List.append_assoc]
            exact hown1.out.kept fun g hg => heap_setCell_other w1 _ _ _ (fun e => hne1.out (by rw [hg, e]))
    · have hkn' : (k : Int) = n := by omega
      go_wp2_with fail
      go_end0
      refine ⟨rfl, ⟨vo', ?_⟩, hbel⟩
      have e : n.toNat = k := by omega
      rw [e]; exact HR.out
end Go.Proofs.Ytpakcmcoafbgkaa.Cx
