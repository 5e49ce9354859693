/- A number in groups of seven bits is read: the program's Get and the reference's come to the same. -/
import Derived.Test.YtpakcmcoafbgkaaCb
import Derived.Test.YtpakcmcoafbgkaaCp
namespace Go.Proofs.Ytpakcmcoafbgkaa.Cx
open Go.RowKit
theorem drop_cons' (b : List Int) (k : Nat) (hk : k < b.length) : b.drop k = b.getD k 0 :: b.drop (k + 1) := by
  rw [List.drop_eq_getElem_cons hk, List.getD_eq_getElem?_getD, List.getElem?_eq_getElem hk]; rfl
theorem getV_stop (g k : Nat) (acc : Int) (b : List Int) (h : g = 0 ∨ b.length ≤ k) : getV g k acc (b.drop k) = (0, 0) := by
  rcases h with rfl | h
  · rfl
  · rw [List.drop_eq_nil_of_le h]; cases g <;> rfl
theorem getV_go (g k : Nat) (acc : Int) (b : List Int) (hk : k < b.length) : getV (g + 1) k acc (b.drop k) =
    if b.getD k 0 < 128 then (if acc + b.getD k 0 % 128 * 128 ^ k > 2147483647 then (0, 0) else (acc + b.getD k 0 % 128 * 128 ^ k, (k : Int) + 1)) else getV g (k + 1) (acc + b.getD k 0 % 128 * 128 ^ k) (b.drop (k + 1)) := by
  rw [drop_cons' b k hk]; rfl
set_option maxHeartbeats 1600000 in
theorem get_any (v : Value) (b : List Int) (w : World) (h : RI .u8 w v b) (hb : Bytes b) :
    Calls Try.prog 43 #[v] w fun e w' => e = .returned (.tuple #[.int .i64 (getN b).1, .int .i64 (getN b).2]) ∧ w = w' := by
  obtain ⟨A, c, rfl, hc1, hc2, hcell⟩ := h
  by_cases h5 : 5 ≤ b.length
  all_goals
    go_enter Try.func43, Try.ntmps43
    go_wp2_with fail
    go_loop [4, 9] (fun n i => ∃ (k : Nat) (acc : Int), k ≤ 5 ∧ k ≤ b.length ∧ i = .int .i64 k ∧ n = .int .i64 acc ∧ 0 ≤ acc ∧ Hid (acc < 128 ^ k) ∧ Hid (getN b = getV (5 - k) k acc (b.drop k))) (fun _ i => 5 - (intOf i).toNat)
    case atStart => exact ⟨0, 0, by omega, by omega, rfl, rfl, by omega, (by decide : (0 : Int) < 128 ^ 0), rfl⟩
    case round =>
      obtain ⟨k, acc, hk5, hkl, rfl, rfl, ha0, ha1, hG⟩ := hrel
      by_cases hk : k < 5 ∧ k < b.length
      · obtain ⟨hk1, hk2⟩ := hk
        obtain ⟨ad, e, hx⟩ := hcell k hk2
        cases e
        obtain ⟨b0, b1⟩ := hb.at_ k
        have hs := acc_step acc (b.getD k 0) k ha0 ha1.out b0
        have HS := Lib.hid hs.2
        have hs0 := hs.1
        have HE := Lib.hid (get_expr acc (b.getD k 0) k hk1 ha0 ha1.out b0 b1)
        have HN : Hid (getN b = if b.getD k 0 < 128 then (if acc + b.getD k 0 % 128 * 128 ^ k > 2147483647 then (0, 0) else (acc + b.getD k 0 % 128 * 128 ^ k, (k : Int) + 1)) else getV (5 - (k + 1)) (k + 1) (acc + b.getD k 0 % 128 * 128 ^ k) (b.drop (k + 1))) := by
          rw [hG.out, ← getV_go (5 - (k + 1)) k acc b hk2, show 5 - (k + 1) + 1 = 5 - k by omega]; exact rfl
        clear hcell hs hG hb
        generalize b.getD k 0 = x at *
        generalize hy : acc + x % 128 * 128 ^ k = y at *
        clear hy
        go_wp2
        all_goals simp only [HE.out] at *
        · go_ret2
          refine ⟨?_, rfl⟩
          rw [HN.out, if_pos (by assumption), if_pos (by assumption)]; rfl
        · go_ret2
          refine ⟨?_, rfl⟩
          rw [HN.out, if_pos (by assumption), if_neg (by omega)]; rfl
        · go_round
          case measure => simp [intOf]; omega
          case rel => exact ⟨k + 1, y, by omega, by omega, by go_num, rfl, hs0, HS.out, by rw [HN.out, if_neg (by omega)]; exact rfl⟩
      · have HN : Hid (getN b = (0, 0)) := by rw [hG.out, getV_stop _ _ _ _ (by omega)]; exact rfl
        clear hcell hG
        go_wp2
        go_ret2
        exact ⟨by rw [HN.out]; rfl, rfl⟩
/-- The reference's. -/
theorem rget_any (v : Value) (b : List Int) (w : World) (h : RI .u8 w v b) (hb : Bytes b) :
    Calls Try.prog 42 #[v] w fun e w' => e = .returned (.tuple #[.int .i64 (getN b).1, .int .i64 (getN b).2]) ∧ w = w' := by
  obtain ⟨A, c, rfl, hc1, hc2, hcell⟩ := h
  go_enter Try.func42, Try.ntmps42
  go_wp2_with fail
  go_loop [4, 5, 6] (fun n mu i => ∃ (k : Nat) (acc : Int), k ≤ 5 ∧ k ≤ b.length ∧ i = .int .i64 k ∧ n = .int .i64 acc ∧ mu = .int .i64 (128 ^ k) ∧ 0 ≤ acc ∧ Hid (acc < 128 ^ k) ∧ Hid (getN b = getV (5 - k) k acc (b.drop k))) (fun _ _ i => 5 - (intOf i).toNat)
  case atStart => exact ⟨0, 0, by omega, by omega, rfl, rfl, rfl, by omega, (by decide : (0 : Int) < 128 ^ 0), rfl⟩
  case round =>
    obtain ⟨k, acc, hk5, hkl, rfl, rfl, rfl, ha0, ha1, hG⟩ := hrel
    by_cases hk : k < 5 ∧ k < b.length
    · obtain ⟨hk1, hk2⟩ := hk
      obtain ⟨ad, e, hx⟩ := hcell k hk2
      cases e
      obtain ⟨b0, b1⟩ := hb.at_ k
      have hs := acc_step acc (b.getD k 0) k ha0 ha1.out b0
      have HS := Lib.hid hs.2
      have hs0 := hs.1
      have HE := Lib.hid (rget_expr acc (b.getD k 0) k hk1 ha0 ha1.out b0 b1)
      have HM := Lib.hid (rget_mul k hk1)
      have HN : Hid (getN b = if b.getD k 0 < 128 then (if acc + b.getD k 0 % 128 * 128 ^ k > 2147483647 then (0, 0) else (acc + b.getD k 0 % 128 * 128 ^ k, (k : Int) + 1)) else getV (5 - (k + 1)) (k + 1) (acc + b.getD k 0 % 128 * 128 ^ k) (b.drop (k + 1))) := by
        rw [hG.out, ← getV_go (5 - (k + 1)) k acc b hk2, show 5 - (k + 1) + 1 = 5 - k by omega]; exact rfl
      clear hcell hs hG hb
      generalize b.getD k 0 = x at *
      generalize hy : acc + x % 128 * 128 ^ k = y at *
      clear hy
      go_wp2
      all_goals simp only [HE.out, HM.out] at *
      · go_ret2
        refine ⟨?_, rfl⟩
        rw [HN.out, if_pos (by assumption), if_pos (by assumption)]; rfl
      · go_ret2
        refine ⟨?_, rfl⟩
        rw [HN.out, if_pos (by assumption), if_neg (by omega)]; rfl
      · go_round
        case measure => simp [intOf]; omega
        case rel => exact ⟨k + 1, y, by omega, by omega, by go_num, rfl, rfl, hs0, HS.out, by rw [HN.out, if_neg (by omega)]; exact rfl⟩
    · have HN : Hid (getN b = (0, 0)) := by rw [hG.out, getV_stop _ _ _ _ (by omega)]; exact rfl
      clear hcell hG
      by_cases h5 : k < 5
      all_goals
        go_wp2
        go_ret2
        exact ⟨by rw [HN.out]; rfl, rfl⟩
end Go.Proofs.Ytpakcmcoafbgkaa.Cx
