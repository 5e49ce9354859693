/- The laws' cells: Cells. -/
import Derived.Test.YtpakcmcoafbgkaaCw
import Derived.Laws.Small
namespace Go.Proofs.Ytpakcmcoafbgkaa.Cx
open Go.RowKit
/-- A slice of runs that can be read. -/
structure RP (w : World) (A : Option Addr) (n c : Nat) : Prop where
  le : n ≤ c
  cap : c ≤ 9223372036854775807
  pair : ∀ j, j < n → ∃ (ad : Addr) (x y : Int), A = some ad ∧ w.cell? (ad.add (j * 2)) = some (.int .i64 x) ∧ w.cell? ⟨(ad.add (j * 2)).block, (ad.add (j * 2)).off + 1, none⟩ = some (.int .i64 y) ∧ -9223372036854775808 ≤ x ∧ x ≤ 9223372036854775807 ∧ -9223372036854775808 ≤ y ∧ y ≤ 9223372036854775807
theorem RP.below {w w' : World} {A : Option Addr} {n c : Nat} (h : RP w A n c) (hb : Below w.heap.size w w') : RP w' A n c :=
  ⟨h.le, h.cap, fun j hj => by
    obtain ⟨ad, x, y, rfl, h1, h2, h3⟩ := h.pair j hj
    exact ⟨ad, x, y, rfl, by rw [hb.cell (World.block_lt_of_cell? w _ h1)]; exact h1, by rw [hb.cell (World.block_lt_of_cell? w _ h2)]; exact h2, h3⟩⟩
theorem Row32.other {w : World} {base g : Nat} (h : Row32 w base g) {p : Addr} (v : Value) (hp : g ≠ p.block) : Row32 (w.setCell p v) base g := by
  obtain ⟨cs, hk, hl, hO⟩ := h.ex
  exact ⟨cs, hk, hl, hO.kept fun b hb => by
    obtain rfl : g = b := by simpa [Value.ownBlock] using hb
    exact heap_setCell_other w _ _ _ hp⟩
theorem add_succ (ad : Addr) (m : Nat) : ad.add (m + 1) = ⟨ad.block, ad.off + (m + 1), none⟩ := by
  unfold Addr.add; rw [if_neg (Nat.succ_ne_zero m)]
theorem tmod_range (x m : Int) (hm : 0 < m) : -m < x.tmod m ∧ x.tmod m < m := by
  rw [tmod_eq_if x m]
  split
  · exact ⟨by have := Int.emod_nonneg x (Int.ne_of_gt hm); omega, Int.emod_lt_of_pos x hm⟩
  · have h1 := Int.emod_nonneg (-x) (Int.ne_of_gt hm)
    have h2 := Int.emod_lt_of_pos (-x) hm
    omega
set_option maxHeartbeats 3200000 in
theorem cells_any (A : Option Addr) (n c : Nat) (vs : Value) (ss : List Int) (w : World) (h : RP w A n c) (hs : RI .i64 w vs ss) (hns : (ss.length : Int) ≤ 10000) (hi : ∀ j, j < ss.length → -9223372036854775808 ≤ ss.getD j 0 ∧ ss.getD j 0 ≤ 9223372036854775807) : Calls Try.prog 10 #[.slice A n c, vs] w (Row32Post w) := by
  obtain ⟨As, ns, cs, rfl⟩ : ∃ A n c, vs = .slice A n c := by
    obtain ⟨A, c, e, _⟩ := hs
    exact ⟨A, _, c, e⟩
  have H := Lib.hid h
  have HS := Lib.hid hs
  have hc1 := h.le
  have hc2 := h.cap
  have hc3 := hs.lc
  have HI : Hid (∀ j, j < ns → -9223372036854775808 ≤ ss.getD j 0 ∧ ss.getD j 0 ≤ 9223372036854775807) := fun j hj => hi j (by rw [hs.len]; exact hj)
  have hns1 : (ns : Int) ≤ 10000 := by rw [← hs.len]; exact hns
  clear h hs hi hns
  go_enter Try.func10, Try.ntmps10
  go_wp2_with fail
  refine (rnew_any w).mono ?_
  rintro e w1 ⟨g, hg, rfl, hR, hb⟩
  have hgl : g < w1.heap.size := by
    obtain ⟨cs, _, _, hO⟩ := hR.ex
    exact (hO.base g rfl).2
  have HR := Lib.hid hR
  have HB := Lib.hid hb
  clear hR hb
  obtain ⟨N, hN⟩ : ∃ N : Nat, 32768 = N := ⟨_, rfl⟩
  rw [hN]
  have hNi : Hid ((N : Int) = 32768) := by show _ = _; omega
  have hNs : (N : Int) ≤ 100000 := by omega
  clear hN
  go_wp2_with fail
  go_loopw [6, 7] (fun a i wr => ∃ (k j : Nat), k ≤ N ∧ j ≤ k ∧ a = .int .i64 k ∧ i = .int .i64 j ∧ Hid (Row32 wr w.heap.size g) ∧ Hid (Below w.heap.size w wr)) (fun a _ _ => N - (intOf a).toNat)
  case atStart => exact ⟨0, 0, by omega, by omega, rfl, rfl, HR, HB⟩
  case round =>
    obtain ⟨k, j, hk, hjk, rfl, rfl, hR, hB⟩ := hrel
    by_cases hkn : k < N
    · by_cases hn : 0 < n
      · have hjn : j % n < n := Nat.mod_lt _ hn
        obtain ⟨ad, x, y, rfl, hx, hy, x0, x1, y0, y1⟩ := (H.out.below (hB.out.mono (Nat.le_refl _))).pair _ hjn
        have hx9 : -9000 < x.tmod 9000 ∧ x.tmod 9000 < 9000 := tmod_range x 9000 (by omega)
        have hy9 : -17 < y.tmod 17 ∧ y.tmod 17 < 17 := tmod_range y 17 (by omega)
        go_wp2_with fail
        have hR1 : Hid (Row32 (wr.alloc (.cells #[.int .i64 x, .int .i64 y] 45)) w.heap.size g) := hR.out.below (below_alloc wr _)
        have hB1 : Hid (Below w.heap.size w (wr.alloc (.cells #[.int .i64 x, .int .i64 y] 45))) := hB.out.alloc hB.out.size _
        have hM : 1 ≤ x.tmod 9000 % 9000 + 1 ∧ x.tmod 9000 % 9000 + 1 ≤ 9000 := by omega
        have hQ : 0 ≤ (y.tmod 17 + 17) % 17 ∧ (y.tmod 17 + 17) % 17 ≤ 16 := by omega
        generalize wr.alloc (.cells #[.int .i64 x, .int .i64 y] 45) = W at *
        generalize x.tmod 9000 % 9000 + 1 = M at *
        generalize (y.tmod 17 + 17) % 17 = q at *
        generalize wr.heap.size = gz at *
        clear hx hy hR hB
        go_loopw [6, 11] (fun a i wv => ∃ m : Nat, (m : Int) ≤ M ∧ k + m ≤ N ∧ a = .int .i64 ((k + m : Nat) : Int) ∧ i = .int .i64 m ∧ Hid (Row32 wv w.heap.size g) ∧ Hid (Below w.heap.size w wv)) (fun _ i _ => 10000 - (intOf i).toNat)
        case atStart => exact ⟨0, by omega, by omega, rfl, rfl, hR1, hB1⟩
        case round =>
          obtain ⟨m, hm, hkm, rfl, rfl, hR, hB⟩ := hrel
          by_cases hm1 : (m : Int) < M
          · by_cases hk1 : k + m < N
            · obtain ⟨z, hz⟩ := hR.out.cell (k + m) (by have := hNi.out; omega)
              have hfz := hR.out.frozen (k + m)
              have hst := Lib.hid (hR.out.set (k + m) hQ.1 hQ.2)
              have hbs := Lib.hid (hB.out.setCell (p := ⟨g, k + m, none⟩) hg (.int .u8 q))
              go_wp2_with fail
              refine ⟨⟨m + 1, by omega, by omega, by go_num, by go_num, hst, hbs⟩, ?_⟩
              simp [intOf]; omega
            · go_wp2_with fail
              exact ⟨⟨k + m, j + 1, by omega, by omega, rfl, by go_num, hR, hB⟩, by simp [intOf]; omega⟩
          · go_wp2_with fail
            exact ⟨⟨k + m, j + 1, by omega, by omega, rfl, by go_num, hR, hB⟩, by simp [intOf]; omega⟩
      · skip
        go_wp2_with fail
        go_loopw [12] (fun i wv => ∃ m : Nat, m ≤ ns + 1 ∧ i = .int .i64 m ∧ Hid (Row32 wv w.heap.size g) ∧ Hid (Below w.heap.size w wv)) (fun i _ => ns + 1 - (intOf i).toNat)
        case atStart => exact ⟨0, by omega, rfl, hR, hB⟩
        case round =>
          obtain ⟨m, hm, rfl, hR, hB⟩ := hrel
          by_cases hm1 : m + 1 < ns
          · obtain ⟨ad, ea, hx⟩ := HS.out.at_ m (by omega)
            cases ea
            obtain ⟨_, ea, hy⟩ := HS.out.at_ (m + 1) hm1
            cases ea
            have hxW := (hB.out.cell (World.block_lt_of_cell? _ _ hx)).trans hx
            have hyW := (hB.out.cell (World.block_lt_of_cell? _ _ hy)).trans hy
            obtain ⟨x0, x1⟩ := HI.out m (by omega)
            obtain ⟨y0, y1⟩ := HI.out (m + 1) (by omega)
            clear hx hy
            generalize ss.getD m 0 = x at *
            generalize ss.getD (m + 1) 0 = y at *
            have hx9 : -32768 < x.tmod 32768 ∧ x.tmod 32768 < 32768 := tmod_range x 32768 (by omega)
            have hy9 : -17 < y.tmod 17 ∧ y.tmod 17 < 17 := tmod_range y 17 (by omega)
            have hQ : 0 ≤ y.tmod 17 % 17 ∧ y.tmod 17 % 17 ≤ 16 := by omega
            have hP : 0 ≤ x.tmod 32768 % 32768 ∧ x.tmod 32768 % 32768 < N := by have := hNi.out; omega
            rw [add_succ] at hyW
            obtain ⟨z, hz⟩ := hR.out.cell (x.tmod 32768 % 32768).toNat (by have := hNi.out; omega)
            have hfz := hR.out.frozen (x.tmod 32768 % 32768).toNat
            have hst := Lib.hid (hR.out.set (x.tmod 32768 % 32768).toNat hQ.1 hQ.2)
            have hbs := Lib.hid (hB.out.setCell (p := ⟨g, (x.tmod 32768 % 32768).toNat, none⟩) hg (.int .u8 (y.tmod 17 % 17)))
            go_wp2_with fail
            exact ⟨⟨m + 2, by omega, by go_num, hst, hbs⟩, by simp [intOf]; omega⟩
          · go_wp2_with fail
            go_ret
            refine ⟨g, hg, ?_, hR.out, hB.out⟩
            rw [show N = 32768 by have := hNi.out; omega]
            rfl
    · go_wp2_with fail
      go_loopw [12] (fun i wv => ∃ m : Nat, m ≤ ns + 1 ∧ i = .int .i64 m ∧ Hid (Row32 wv w.heap.size g) ∧ Hid (Below w.heap.size w wv)) (fun i _ => ns + 1 - (intOf i).toNat)
      case atStart => exact ⟨0, by omega, rfl, hR, hB⟩
      case round =>
        obtain ⟨m, hm, rfl, hR, hB⟩ := hrel
        by_cases hm1 : m + 1 < ns
        · obtain ⟨ad, ea, hx⟩ := HS.out.at_ m (by omega)
          cases ea
          obtain ⟨_, ea, hy⟩ := HS.out.at_ (m + 1) hm1
          cases ea
          have hxW := (hB.out.cell (World.block_lt_of_cell? _ _ hx)).trans hx
          have hyW := (hB.out.cell (World.block_lt_of_cell? _ _ hy)).trans hy
          obtain ⟨x0, x1⟩ := HI.out m (by omega)
          obtain ⟨y0, y1⟩ := HI.out (m + 1) (by omega)
          clear hx hy
          generalize ss.getD m 0 = x at *
          generalize ss.getD (m + 1) 0 = y at *
          have hx9 : -32768 < x.tmod 32768 ∧ x.tmod 32768 < 32768 := tmod_range x 32768 (by omega)
          have hy9 : -17 < y.tmod 17 ∧ y.tmod 17 < 17 := tmod_range y 17 (by omega)
          have hQ : 0 ≤ y.tmod 17 % 17 ∧ y.tmod 17 % 17 ≤ 16 := by omega
          have hP : 0 ≤ x.tmod 32768 % 32768 ∧ x.tmod 32768 % 32768 < N := by have := hNi.out; omega
          rw [add_succ] at hyW
          obtain ⟨z, hz⟩ := hR.out.cell (x.tmod 32768 % 32768).toNat (by have := hNi.out; omega)
          have hfz := hR.out.frozen (x.tmod 32768 % 32768).toNat
          have hst := Lib.hid (hR.out.set (x.tmod 32768 % 32768).toNat hQ.1 hQ.2)
          have hbs := Lib.hid (hB.out.setCell (p := ⟨g, (x.tmod 32768 % 32768).toNat, none⟩) hg (.int .u8 (y.tmod 17 % 17)))
          go_wp2_with fail
          exact ⟨⟨m + 2, by omega, by go_num, hst, hbs⟩, by simp [intOf]; omega⟩
        · go_wp2_with fail
          go_ret
          refine ⟨g, hg, ?_, hR.out, hB.out⟩
          rw [show N = 32768 by have := hNi.out; omega]
          rfl
end Go.Proofs.Ytpakcmcoafbgkaa.Cx
