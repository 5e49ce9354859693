/- The reference's decoding of form 2: just what 'formD' tells. -/
import Derived.Test.YtpakcmcoafbgkaaDj
namespace Go.Proofs.Ytpakcmcoafbgkaa.Cx
open Go.RowKit
/-- What becomes of the reference's decoding. -/
def RDec (r : Except Int (List Int)) (w : World) (e : Ending) (w' : World) : Prop :=
  match r with
  | .error c => e = .returned (.tuple #[.slice none 0 0, .int .i64 c]) ∧ Below w.heap.size w w'
  | .ok out => ∃ v, e = .returned (.tuple #[v, .int .i64 0]) ∧ Own .u8 5 w' w.heap.size v out ∧ Below w.heap.size w w'
theorem RDec.error {c : Int} {w w' : World} {r : Except Int (List Int)} (hr : r = .error c) (hb : Below w.heap.size w w') : RDec r w (.returned (.tuple #[.slice none 0 0, .int .i64 c])) w' := by subst hr; exact ⟨rfl, hb⟩
theorem RDec.ok {out : List Int} {v : Value} {w w' : World} {r : Except Int (List Int)} (hr : r = .ok out) (h : Own .u8 5 w' w.heap.size v out) (hb : Below w.heap.size w w') : RDec r w (.returned (.tuple #[v, .int .i64 0])) w' := by subst hr; exact ⟨v, rfl, h, hb⟩
theorem pow_w (wd : Nat) (hw : wd = 1 ∨ wd = 2 ∨ wd = 4 ∨ wd = 8) : (0 : Int) < 2 ^ wd ∧ (2 : Int) ^ wd ≤ 256 := by
  rcases hw with rfl | rfl | rfl | rfl <;> exact ⟨by decide, by decide⟩
def fin2 (n N : Nat) : Except Int (List Int) → Except Int (List Int)
  | .error c => .error c
  | .ok out => if n ≤ N then .ok out else .error 2
theorem fin2_long (n N : Nat) (out : List Int) (h : N < n) : fin2 n N (.ok out) = .error 2 := if_neg (by omega)
theorem fin2_ok (n N : Nat) (out : List Int) (h : n ≤ N) : fin2 n N (.ok out) = .ok out := if_pos h
theorem formD_two (b pal : List Int) (wd N q : Nat) (hw : wd = widthN pal.length) (hN : N = 4096 * wd) (hq : q = 8 / wd) (hn : ¬ b.length < N) :
    formD 2 b pal = fin2 b.length N (putP pal ((b.take N).flatMap (placesOf wd q)) []) := by
  unfold formD
  rw [if_neg (by decide), ← hw, ← hN, if_neg hn]
  unfold bitsD
  rw [← hq]
  generalize putP pal ((b.take N).flatMap (placesOf wd q)) [] = R
  cases R <;> rfl
set_option maxHeartbeats 3200000 in
set_option maxRecDepth 100000 in
theorem packed_any (v vl : Value) (b pal : List Int) (w : World) (h : RI .u8 w v b) (hl : RI .u8 w vl pal) (hb : Bytes b) (hp : pal.length ≤ 17) : Calls Try.prog 33 #[v, vl] w (RDec (formD 2 b pal) w) := by
  obtain ⟨A, n, c, rfl⟩ : ∃ A n c, v = .slice A n c := by
    obtain ⟨A, c, e, _⟩ := h
    exact ⟨A, _, c, e⟩
  obtain ⟨A3, n3, c3, rfl⟩ : ∃ A n c, vl = .slice A n c := by
    obtain ⟨A, c, e, _⟩ := hl
    exact ⟨A, _, c, e⟩
  have HN := Lib.hid h.len
  have HN3 := Lib.hid hl.len
  have hn3 : n3 ≤ 17 := by have := HN3.out; omega
  have hlc := h.lc
  have H := Lib.hid h
  have HL := Lib.hid hl
  have HBy := Lib.hid hb
  generalize hr : formD 2 b pal = r
  have HR := Lib.hid hr
  clear h hl hb hp hr
  go_enter Try.func33, Try.ntmps33
  go_wp2_with fail
  refine (rwidth_any n3 (by omega) _).mono ?_
  rintro e w1 ⟨rfl, rfl⟩
  obtain ⟨wd, hwdd⟩ : ∃ wd, wd = widthN n3 := ⟨_, rfl⟩
  have HW : Hid (wd = 1 ∨ wd = 2 ∨ wd = 4 ∨ wd = 8) := by rw [hwdd]; exact widthN_cases _
  rw [← hwdd]
  rw [HN3.out.symm] at hwdd
  have HWD := Lib.hid hwdd
  clear hwdd
  have hwd1 : 1 ≤ wd := by have := HW.out; omega
  have hwd8 : wd ≤ 8 := by have := HW.out; omega
  obtain ⟨hp0, hp1⟩ := pow_w wd HW.out
  by_cases hlen : (n : Int) < 4096 * wd
  · have hE : Hid (r = .error 3) := by
      rw [← HR.out]; unfold formD
      rw [if_neg (by decide), ← HWD.out, if_pos (by have := HN.out; omega)]; exact rfl
    go_wp2_with fail
    go_ret2
    exact RDec.error hE.out (Below.refl _ _)
  · obtain ⟨N, hN⟩ : ∃ N : Nat, N = 4096 * wd := ⟨_, rfl⟩
    have hNn : (N : Int) ≤ n := by omega
    have hNi : (N : Int) ≤ 32768 := by omega
    obtain ⟨q, hq⟩ : ∃ q : Nat, q = 8 / wd := ⟨_, rfl⟩
    have hq8 : (8 : Int) / (wd : Int) = (q : Int) := by rw [hq]; rfl
    have hqs : (q : Int) ≤ 8 := by have := Nat.div_le_self 8 wd; omega
    have HQW : Hid (q * N = 32768) := by
      show _ = _
      rw [hN, hq]
      rcases HW.out with rfl | rfl | rfl | rfl <;> rfl
    have HQ := Lib.hid hq
    have hNw : (4096 : Int) * wd = N := by omega
    have HNW := Lib.hid hN
    obtain ⟨T, hT⟩ : ∃ T, T = b.take N := ⟨_, rfl⟩
    have HTl : Hid (T.length = N) := by show _ = _; rw [hT, List.length_take]; have := HN.out; omega
    have HTB : Hid (Bytes T) := by rw [hT]; exact HBy.out.take _
    have HT : Hid (RI .u8 w (.slice A N c) T) := by rw [hT]; exact H.out.take N (by omega)
    obtain ⟨R0, hR0⟩ : ∃ R0, R0 = putP pal (T.flatMap (placesOf wd q)) [] := ⟨_, rfl⟩
    have HF : Hid (r = fin2 n N R0) := by
      have h := formD_two b pal wd N q HWD.out hN hq (by have := HN.out; omega)
      rw [HR.out, ← hT, ← hR0, HN.out] at h
      exact h
    have HR0 := Lib.hid hR0
    have hdn0 : decide (n < N) = false := decide_eq_false (by omega)
    clear hq hN hT hR0 HR hlen
    go_wp2_with fail
    go_loopg [7, 8] N (fun g o i wr => ∃ (k : Nat) (out : List Int), i = .int .i64 k ∧ k ≤ N ∧ Hid (k + g = N) ∧ Hid (Own .u8 5 wr w.heap.size o out) ∧ Hid (R0 = putP pal ((T.drop k).flatMap (placesOf wd q)) out) ∧ Hid (out.length = k * q) ∧ Hid (Below w.heap.size w wr))
    case atStart => exact ⟨0, [], rfl, by omega, by show _ = _; omega, Own.nil _ _ _ _, HR0, by show _ = _; simp, Below.refl _ _⟩
    case round =>
      obtain ⟨k, out, rfl, hk, hg, hO, hE, hol, hB⟩ := hrel
      obtain ⟨wo, hwo⟩ : ∃ wo, wo = wr := ⟨_, rfl⟩
      rw [← hwo] at hO hB ⊢
      clear hwo
      by_cases hkn : (k : Int) < N
      · obtain ⟨_, ea, hx⟩ := (HT.out.below hB.out).at_ k (by omega)
        cases ea
        obtain ⟨v0, v1⟩ := HTB.out.at_ k
        have hP2 : Hid (R0 = putP pal (placesOf wd (q - 0) (T.getD k 0) ++ (T.drop (k + 1)).flatMap (placesOf wd q)) out) := by
          have hkT : k < T.length := by have := HTl.out; omega
          rw [hE.out, List.drop_eq_getElem_cons hkT, List.flatMap_cons, List.getD_eq_getElem?_getD, List.getElem?_eq_getElem hkT]; exact rfl
        have hbd : Hid (k * q + q ≤ 32768) := by
          have h1 : (k + 1) * q ≤ N * q := Nat.mul_le_mul_right _ (by omega)
          rw [Nat.succ_mul, Nat.mul_comm N q, HQW.out] at h1
          exact h1
        generalize T.getD k 0 = x0 at *
        go_wp2_with fail
        go_loopg [7, 9, 10] q (fun g o v i wr => ∃ (j : Nat) (x : Int) (out' : List Int), i = .int .i64 j ∧ j ≤ q ∧ Hid (j + g = q) ∧ v = .int .i64 x ∧ 0 ≤ x ∧ x < 256 ∧ Hid (Own .u8 5 wr w.heap.size o out') ∧ Hid (R0 = putP pal (placesOf wd (q - j) x ++ (T.drop (k + 1)).flatMap (placesOf wd q)) out') ∧ Hid (out'.length = k * q + j) ∧ Hid (Below w.heap.size w wr))
        case atStart => exact ⟨0, x0, out, rfl, by omega, by show _ = _; omega, rfl, v0, v1, hO, hP2, hol, hB⟩
        case round =>
          obtain ⟨j, x, out', rfl, hj, hg2, rfl, hx0, hx1, hO2, hE2, hol2, hB2⟩ := hrel
          by_cases hjq : (j : Int) < q
          · obtain ⟨m0, m1, d0, d1⟩ := mod_w wd HW.out x hx0 hx1
            have hpl : Hid (placesOf wd (q - j) x = x % 2 ^ wd :: placesOf wd (q - (j + 1)) (x / 2 ^ wd)) := by
              rw [show q - j = (q - (j + 1)) + 1 by omega]; exact rfl
            rw [hpl.out, List.cons_append] at hE2
            clear hpl
            obtain ⟨m, hm⟩ : ∃ m : Nat, x % 2 ^ wd = m := ⟨_, (Int.toNat_of_nonneg m0).symm⟩
            rw [hm] at hE2 m0 m1
            by_cases hpp : m < n3
            · obtain ⟨ad3, ea, hy⟩ := (HL.out.below hB2.out).at_ m hpp
              cases ea
              have hdm : decide (n3 ≤ m) = false := decide_eq_false (by omega)
              have hE3 : Hid (R0 = putP pal (placesOf wd (q - (j + 1)) (x / 2 ^ wd) ++ List.flatMap (placesOf wd q) (List.drop (k + 1) T)) (out' ++ [pal.getD m 0])) := by
                have h := hE2.out
                unfold putP at h
                rw [if_pos (by have := HN3.out; omega), Int.toNat_natCast] at h
                exact h
              have hws := hB2.out.size
              have hol3 : (out'.length : Int) ≤ 40000 := by have := hol2.out; have := hbd.out; omega
              clear hE2
              generalize pal.getD m 0 = y at *
              go_wp2_with (at_builtin; refine appR (w0 := w) w.heap.size rfl (.tmp 46) (.tmp 51) 25 5 .u8 1 rfl Try.underlying25 info5 (by omega) u7 out' [y] (.slice (some ⟨wr.heap.size, 0, none⟩) 1 1) rfl rfl (hO2.out.alloc _) (RI.box .u8 5 wr [y] (by simp) (0, 0)) (hB2.out.alloc hws _) (by simp; omega) (by simp; omega) ?_; intro v7 w7 h7 hb7 hg7 ha7; have H7 := Lib.hid h7; have HB7 := Lib.hid hb7; clear h7 hb7 hg7 ha7)
              go_roundg (q - (j + 1))
              case measure => have := hg2.out; omega
              case rel => exact ⟨j + 1, x / 2 ^ wd, _, by go_num, by omega, by show _ = _; omega, rfl, d0, d1, H7, hE3, by show _ = _; rw [List.length_append, hol2.out]; rfl, HB7⟩
            · have hdm : decide (n3 ≤ m) = true := decide_eq_true (by omega)
              have hE3 : Hid (r = .error 4) := by
                have h := hE2.out
                unfold putP at h
                rw [if_neg (by have := HN3.out; omega)] at h
                show _ = _
                rw [HF.out, h]; rfl
              clear hE2
              go_wp2_with fail
              go_ret2
              exact RDec.error hE3.out hB2.out
          · go_wp2_with fail
            go_roundg (N - (k + 1))
            case measure => have := hg.out; omega
            case rel =>
              have e : j = q := by omega
              refine ⟨k + 1, out', by go_num, by omega, by show _ = _; omega, hO2, ?_, ?_, hB2⟩
              · rw [hE2.out, e, Nat.sub_self]; exact rfl
              · rw [hol2.out, e, Nat.succ_mul]; exact rfl
      · have hkN : k = N := by omega
        have hE' : Hid (R0 = .ok out) := by
          rw [hE.out, hkN, List.drop_eq_nil_of_le (by have := HTl.out; omega)]; exact rfl
        by_cases hlast : (N : Int) < n
        · have hrr : Hid (r = .error 2) := by rw [HF.out, hE'.out]; exact fin2_long _ _ _ (by omega)
          go_wp2_with fail
          go_ret2
          exact RDec.error hrr.out hB.out
        · have hrr : Hid (r = .ok out) := by rw [HF.out, hE'.out]; exact fin2_ok _ _ _ (by omega)
          go_wp2_with fail
          go_ret2
          exact RDec.ok hrr.out hO.out hB.out
end Go.Proofs.Ytpakcmcoafbgkaa.Cx
