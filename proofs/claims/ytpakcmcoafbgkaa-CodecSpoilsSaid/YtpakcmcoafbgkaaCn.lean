/- The reference's palette and place. -/
import Derived.Test.YtpakcmcoafbgkaaCm
namespace Go.Proofs.Ytpakcmcoafbgkaa.Cx
open Go.RowKit
theorem grown_eq {wr W w1 : World} {v : Value} {br : Nat} (hW : Below wr.heap.size wr W) (hg : W.grownBy w1 v.ownBlock) (hne : v.ownBlock ≠ some br) (hlt : br < wr.heap.size) : w1.heap[br]? = wr.heap[br]? := by
  rw [hg.block br (Nat.lt_of_lt_of_le hlt hW.size) (fun e => hne e.symm), hW.block br hlt]
theorem grown_size {wr W w1 : World} {v : Value} (hW : Below wr.heap.size wr W) (hg : W.grownBy w1 v.ownBlock) : wr.heap.size ≤ w1.heap.size := Nat.le_trans hW.size hg.size
set_option maxHeartbeats 800000 in
theorem palette_any (v : Value) (cs : List Int) (w : World) (h : RI .u8 w v cs) (hk : Kinds cs) (hl : (cs.length : Int) ≤ 32768) : Calls Try.prog 26 #[v] w (NewRow .u8 5 (palK cs) w) := by
  have H := Lib.hid h
  have HK := Lib.hid hk
  have HL := Lib.hid hl
  clear h hk hl
  go_enter Try.func26, Try.ntmps26
  go_wp2_with fail
  refine (rcounts_any v cs w H.out HK.out HL.out).mono ?_
  rintro e w1 ⟨vc, rfl, hO, hb⟩
  obtain ⟨gc, cc, cur, rfl, hgb, _⟩ := hO.form (by rw [cnt_len]; omega)
  rw [cnt_len] at hO
  rw [cnt_len]
  have hlt := (hO.base gc rfl).2
  have HR := Lib.hid hO.RI
  have Hb := Lib.hid hb
  clear hO hb
  go_wp2_with fail
  go_loopw [4, 5] (fun v i wr => ∃ k : Nat, k ≤ 17 ∧ i = .int .i64 k ∧ Hid (Own .u8 5 wr w.heap.size v (palTo cs k)) ∧ Hid (v.ownBlock ≠ some gc) ∧ Hid (RI .i64 wr (.slice (some ⟨gc, 0, none⟩) 17 cc) (cnt cs)) ∧ Hid (Below w.heap.size w wr) ∧ gc < wr.heap.size ∧ w.heap.size ≤ wr.heap.size)
    (fun _ i _ => 17 - (intOf i).toNat)
  case atStart => exact ⟨0, by omega, rfl, Own.nil _ _ _ _, fun e => (by cases e), HR, Hb, hlt, Hb.out.size⟩
  case round =>
    obtain ⟨k, hk, rfl, hO, hne, hR, hbel, hgl, hws⟩ := hrel
    by_cases hkn : k < 17
    · obtain ⟨ad, ea, hx⟩ := hR.out.at_ k hkn
      cases ea
      rw [adp, Nat.zero_add] at hx
      have hpl := palTo_len cs k
      have hcg : Hid ((cnt cs).getD k 0 = ((cs.count (k : Int) : Nat) : Int)) := cnt_get cs k hkn
      by_cases hc : 0 < cs.count (k : Int)
      · have hpt : Hid (palTo cs (k + 1) = palTo cs k ++ [(k : Int)]) := by rw [palTo_succ, if_pos hc]; exact rfl
        have hx0 : 0 < (cnt cs).getD k 0 := by rw [hcg.out]; omega
        generalize (cnt cs).getD k 0 = x at *
        go_wp2_with (at_builtin; refine appR (w0 := w) w.heap.size rfl (.tmp 19) (.tmp 22) 25 5 .u8 1 rfl Try.underlying25 info5 (by omega) u4 (palTo cs k) [(k : Int)] (.slice (some ⟨wr.heap.size, 0, none⟩) 1 1) rfl rfl (hO.out.alloc _) (RI.box .u8 5 wr [(k : Int)] (by simp) (0, 0)) (hbel.out.alloc hws _) (by simp; omega) (by simp; omega) ?_; intro v1 w1 h1 hb1 hg1 ha1)
        have hlt1 := grown_size (below_alloc wr _) hg1
        refine ⟨⟨k + 1, by omega, by go_num, by rw [hpt.out]; exact h1, ha1.ne hne.out (by show gc < (wr.heap.push _).size; rw [Array.size_push]; omega), hR.out.move fun g hg => ?_, hb1, by omega, by omega⟩, by simp [intOf]; omega⟩
        obtain rfl : gc = g := by simpa [Value.ownBlock] using hg
        exact grown_eq (below_alloc wr _) hg1 hne.out hgl
      · have hpt : Hid (palTo cs (k + 1) = palTo cs k) := by rw [palTo_succ, if_neg hc]; exact rfl
        have hx0 : ¬ (0 < (cnt cs).getD k 0) := by rw [hcg.out]; omega
        generalize (cnt cs).getD k 0 = x at *
        go_wp2_with fail
        exact ⟨⟨k + 1, by omega, by go_num, by rw [hpt.out]; exact hO, hne, hR, hbel, hgl, hws⟩, by simp [intOf]; omega⟩
    · obtain rfl : k = 17 := by omega
      go_wp2_with fail
      go_ret
      exact ⟨_, rfl, hO.out, hbel.out⟩
theorem place_any (v : Value) (l : List Int) (x : Int) (w : World) (h : RI .u8 w v l) (hl : Rising l) (hx : x ∈ l) : Calls Try.prog 28 #[v, .int .u8 x] w fun e w' => e = .returned (.int .i64 (plc l x)) ∧ w = w' := by
  obtain ⟨A, n, c, rfl⟩ : ∃ A n c, v = .slice A n c := by
    obtain ⟨A, c, e, _⟩ := h
    exact ⟨A, _, c, e⟩
  have HN := Lib.hid h.len
  have HC := Lib.hid h.lc
  have hn : (n : Int) ≤ 9223372036854775807 := by have := HC.out; omega
  have H := Lib.hid h
  have HL := Lib.hid hl
  have HX := Lib.hid hx
  clear h hl hx
  go_enter Try.func28, Try.ntmps28
  go_wp2_with fail
  go_loop [5] (fun i => ∃ k : Nat, k ≤ n ∧ i = .int .i64 k ∧ Hid (∀ j, j < k → l.getD j 0 ≠ x)) (fun i => n - (intOf i).toNat)
  case atStart => exact ⟨0, by omega, rfl, fun j hj => absurd hj (by omega)⟩
  case round =>
    obtain ⟨k, hk, rfl, hno⟩ := hrel
    by_cases hkn : k < n
    · obtain ⟨ad, ea, hcell⟩ := H.out.at_ k hkn
      cases ea
      by_cases he : l.getD k 0 = x
      · have hp : Hid (plc l x = k) := plc_eq HL.out ⟨by omega, by rw [HN.out]; omega, by rw [Int.toNat_natCast]; exact he⟩
        rw [he] at hcell
        clear he
        go_wp2_with fail
        go_ret
        exact ⟨by rw [hp.out]; rfl, rfl⟩
      · have hd : (l.getD k 0 == x) = false := beq_eq_false_iff_ne.2 he
        have hno' : Hid (∀ j, j < k + 1 → l.getD j 0 ≠ x) := fun j hj => by
          by_cases hjk : j < k
          · exact hno.out j hjk
          · obtain rfl : j = k := by omega
            exact he
        clear he
        generalize l.getD k 0 = y at *
        go_wp2_with fail
        go_round
        case measure => simp [intOf]; omega
        case rel => exact ⟨k + 1, by omega, by go_num, hno'⟩
    · obtain ⟨i, hi, hxi⟩ := List.mem_iff_getElem.1 HX.out
      exact absurd (by rw [List.getD_eq_getElem?_getD, List.getElem?_eq_getElem hi]; exact hxi) (hno.out i (by have := HN.out; omega))
end Go.Proofs.Ytpakcmcoafbgkaa.Cx
